/-
  The struct api.Edit, and how it is opened.
-/
import Derived.Test.YtkinjjgaecbogaaProg
import Derived.Test.YtkinjjgaecbogaaOpen
namespace Go.Proofs.Ytkinjjgaecbogaa
open Go.ChangeShapes Go.WideShapes Go.ChangeAt Go.RowKit
set_option maxRecDepth 100000
theorem ed_cells : Try.prog.cellsOf 78 = 3 := by kernel_rfl
/-- An edit. -/
structure Ed where
  pos : Int
  del : List UInt8
  ins : List UInt8
def Ed.cells (e : Ed) : List Value := [.int .i64 e.pos, .string (B e.del), .string (B e.ins)]
def Ed.Ok (e : Ed) : Prop := -9223372036854775808 ≤ e.pos ∧ e.pos ≤ 9223372036854775807 ∧ e.del.length ≤ 9223372036854775807 ∧ e.ins.length ≤ 9223372036854775807
theorem ed_dec {H : Type} {enc : TypeId × Value → H} {w : World} {fuel : Nat} {cs : List Value} {d : DataW H × List MemPlace}
    (h : DataW.trod enc Try.prog w 0 (fun _ => true) true fuel 78 cs = some d) : ∃ x : Ed, cs = x.cells ∧ x.Ok := by
  obtain ⟨ys, n, _, _, hl, hyl, hf⟩ := DataW.trod_struct Try.underlying78 h
  rw [ed_cells] at hl
  match cs, hl with
  | [c0, c1, c2], _ =>
    have h0 := hf 0 _ rfl
    have h1 := hf 1 _ rfl
    have h2 := hf 2 _ rfl
    have k0 : Try.prog.cellsOf 3 = 1 := by kernel_rfl
    have k1 : Try.prog.cellsOf 9 = 1 := by kernel_rfl
    simp [k0] at h0
    simp [k1] at h1 h2
    have hy0 : ys[0]? = some (ys[0]'(by rw [hyl]; decide)) := List.getElem?_eq_getElem _
    have hy1 : ys[1]? = some (ys[1]'(by rw [hyl]; decide)) := List.getElem?_eq_getElem _
    have hy2 : ys[2]? = some (ys[2]'(by rw [hyl]; decide)) := List.getElem?_eq_getElem _
    obtain ⟨m, e0, _, wn⟩ := DataW.trod_int Try.underlying3 (h0.trans hy0)
    obtain ⟨s1, e1, _, w1⟩ := DataW.trod_string Try.underlying9 (h1.trans hy1)
    obtain ⟨s2, e2, _, w2⟩ := DataW.trod_string Try.underlying9 (h2.trans hy2)
    simp at e0 e1 e2
    subst e0 e1 e2
    obtain ⟨a, rfl⟩ := B_all s1
    obtain ⟨b, rfl⟩ := B_all s2
    rw [B_size] at w1 w2
    have := bounds_i64 wn
    exact ⟨⟨m, a, b⟩, rfl, this.1, this.2, w1, w2⟩
end Go.Proofs.Ytkinjjgaecbogaa
