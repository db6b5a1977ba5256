/-
  The walk of (*hist.Hist).Walk.
-/
import Derived.Test.YteojepadhonbiaaHist6
namespace Go.Proofs.Yteojepadhonbiaa
open Go.ChangeShapes Go.WideShapes Go.Deep Go.RowKit
set_option maxRecDepth 100000
def WalkPost (xs : List (List UInt8)) (now : List UInt8) (w : World) (e : Ending) (w' : World) : Prop :=
  ∃ pb lv, e = .returned (.pointer (some ⟨pb, 0, none⟩)) ∧ WalkAt w' w.heap.size pb lv (xs ++ [now]) xs.length ∧ Below w.heap.size w w'
theorem hold_of {w w' : World} {hb j : Nat} {lv : Value} (hc : w.cell? ⟨hb, j, none⟩ = some lv) (hlt : hb < w.heap.size) (h : Below w.heap.size w w') : w'.cell? ⟨hb, j, none⟩ = some lv ∧ Below w.heap.size w w' :=
  ⟨(h.cell (p := ⟨hb, j, none⟩) hlt).trans hc, h⟩
theorem walk_box {w : World} {b0 g off c : Nat} {xs : List (List UInt8)} {now : List UInt8} (t : TypeId) (h : Own w b0 1 (.slice (some ⟨g, off, none⟩) (xs.length + 1) c) (xs.length + 1) (xs.flatMap strC ++ [.string (B now)])) (hg : g < w.heap.size) (hb : b0 ≤ w.heap.size) :
    WalkAt (w.alloc (.cells #[.slice (some ⟨g, off, none⟩) (xs.length + 1) c, .int .i64 xs.length] t)) b0 w.heap.size (.slice (some ⟨g, off, none⟩) (xs.length + 1) c) (xs ++ [now]) xs.length := by
  refine ⟨by simp, hb, by go_simp, by go_simp, fun j => by simp [go_sem], ?_, by simp [Value.ownBlock]; omega⟩
  have := h.below (below_alloc (Below.refl _ _) (.cells #[.slice (some ⟨g, off, none⟩) (xs.length + 1) c, .int .i64 xs.length] t))
  rw [List.flatMap_append, List.length_append]
  exact this
theorem StepPost.form {b0 pb : Nat} {lv : Value} {ys : List (List UInt8)} {at_ : Nat} {now : List UInt8} {by_ : Int} {w w' : World} {e : Ending} (h : StepPost b0 pb lv ys at_ now by_ w e w') : ∃ t k, e = .returned (.tuple #[.string (B t), .bool k]) := by
  by_cases h1 : (at_ : Int) + by_ < 0 ∨ (ys.length : Int) ≤ (at_ : Int) + by_
  · exact ⟨_, _, (h.no h1).1⟩
  · obtain ⟨q, hq⟩ := Int.eq_ofNat_of_zero_le (show 0 ≤ (at_ : Int) + by_ by omega)
    exact ⟨_, _, (h.yes q hq (by omega)).1⟩
end Go.Proofs.Yteojepadhonbiaa
