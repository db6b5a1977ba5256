/-
  Slices of texts, opened.
-/
import Derived.Test.YteojepadhonbiaaHist4
import Derived.Test.YteojepadhonbiaaOpen
namespace Go.Proofs.Yteojepadhonbiaa
open Go.ChangeShapes Go.WideShapes Go.ChangeAt Go.RowKit
set_option maxRecDepth 100000
theorem str_cells : Try.prog.cellsOf 9 = 1 := by kernel_rfl
theorem str_dec {H : Type} {enc : TypeId × Value → H} {w : World} {fuel : Nat} {cs : List Value} {d : DataW H × List MemPlace}
    (h : DataW.trod enc Try.prog w 0 (fun _ => true) true fuel 9 cs = some d) : ∃ x : List UInt8, cs = strC x ∧ x.length ≤ 9223372036854775807 := by
  obtain ⟨s1, e1, _, w1⟩ := DataW.trod_string Try.underlying9 h
  obtain ⟨a, rfl⟩ := B_all s1
  rw [B_size] at w1
  exact ⟨a, e1, w1⟩
theorem open_strs {H : Type} {enc : TypeId × Value → H} {w : World} {base : Nat} {d : DataW H} {p : List MemPlace} {v : Value}
    (h : DataW.Trod enc Try.prog w 0 (fun _ => true) true 31 v d p) (k : Value.okWide Try.prog w .any base 31 v) : ∃ xs, Sl w strC 1 v xs ∧ xs.length ≤ 9223372036854775807 := by
  obtain ⟨xs, h1, _, h3⟩ := open_sl strC (fun x => x.length ≤ 9223372036854775807) Try.underlying31 str_cells (by omega) str_dec h k
  exact ⟨xs, h1, h3⟩
end Go.Proofs.Yteojepadhonbiaa
