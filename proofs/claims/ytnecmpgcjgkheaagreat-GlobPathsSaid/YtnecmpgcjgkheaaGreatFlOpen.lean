/-
  A row of files as an argument. No condition.
-/
import Derived.Test.YtnecmpgcjgkheaaGreatSl
import Derived.Test.YtnecmpgcjgkheaaGreatTreePlain3
set_option linter.unusedSimpArgs false
set_option linter.unusedVariables false
namespace Go.Proofs.YtnecmpgcjgkheaaGreat
open Go.ChangeShapes Go.WideShapes Go.ChangeAt Go.RowKit
open Go.ChangeMaps (open_string shut_string)
set_option maxRecDepth 100000
section
variable {H : Type} {enc : TypeId × Value → H} {w : World} {base : Nat} {d : DataW H} {p : List MemPlace} {v : Value}
theorem open_text (h : DataW.Trod enc Tryz.prog w 0 (fun _ => true) true 9 v d p) (k : Value.okWide Tryz.prog w .any base 9 v) : ∃ s, v = .string (B s) ∧ s.length ≤ 9223372036854775807 := by
  obtain ⟨a, rfl, rfl, rfl, ha⟩ := open_string Tryz.underlying9 k h
  obtain ⟨s, rfl⟩ := B_all a
  exact ⟨s, rfl, by rw [B_size] at ha; exact ha⟩
end
end Go.Proofs.YtnecmpgcjgkheaaGreat
namespace Go.Proofs.YtnecmpgcjgkheaaGreat.Fil
open Go.ChangeShapes Go.WideShapes Go.Deep Go.ChangeAt Go.RowKit
set_option maxRecDepth 100000
def FlOk (x : Fl) : Prop := x.path.length ≤ 9223372036854775807 ∧ -9223372036854775808 ≤ x.kind ∧ x.kind ≤ 9223372036854775807
theorem fl_cells : Tryz.prog.cellsOf 34 = 2 := by kernel_rfl
theorem fl_dec {H : Type} {enc : TypeId × Value → H} {w : World} {fuel : Nat} {cs : List Value} {d : DataW H × List MemPlace}
    (h : DataW.trod enc Tryz.prog w 0 (fun _ => true) true fuel 34 cs = some d) : ∃ x : Fl, cs = flC x ∧ FlOk x := by
  obtain ⟨ys, n, _, _, hl, hyl, hf⟩ := DataW.trod_struct Tryz.underlying34 h
  rw [fl_cells] at hl
  match cs, hl with
  | [c0, c1], _ =>
    have k0 : Tryz.prog.cellsOf 9 = 1 := by kernel_rfl
    have k1 : Tryz.prog.cellsOf 3 = 1 := by kernel_rfl
    have h0 := hf 0 _ rfl
    have h1 := hf 1 _ rfl
    simp [k0, k1] at h0 h1
    have hy0 : ys[0]? = some (ys[0]'(by rw [hyl]; decide)) := List.getElem?_eq_getElem _
    obtain ⟨s0, e0, _, w0⟩ := DataW.trod_string Tryz.underlying9 (h0.trans hy0)
    obtain ⟨a0, rfl⟩ := B_all s0
    rw [B_size] at w0
    have hy1 : ys[1]? = some (ys[1]'(by rw [hyl]; decide)) := List.getElem?_eq_getElem _
    obtain ⟨s1, e1, _, w1⟩ := DataW.trod_int Tryz.underlying3 (h1.trans hy1)
    simp at e0
    simp at e1
    subst e0
    subst e1
    exact ⟨⟨a0, s1⟩, rfl, w0, bounds_i64 w1⟩
end Go.Proofs.YtnecmpgcjgkheaaGreat.Fil
