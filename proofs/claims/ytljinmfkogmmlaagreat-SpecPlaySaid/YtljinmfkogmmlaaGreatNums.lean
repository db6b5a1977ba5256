/-
  The cells of rows of numbers and of bytes. Conditions: none.
-/
import Derived.Test.YtljinmfkogmmlaaGreatProg
import Derived.Test.YtljinmfkogmmlaaGreatOwn
namespace Go.Proofs.YtljinmfkogmmlaaGreat
open Go.ChangeShapes Go.WideShapes Go.Deep Go.RowKit
/-- The cells of a number, of a byte. -/
def numC (x : Int) : List Value := [.int .i64 x]
theorem numC_len {xs : List Int} : ∀ x ∈ xs, (numC x).length = 1 := fun _ _ => rfl
theorem info_num : (Tryz.prog.info? 3).map (fun i => (i.zero, i.size, i.bytes)) = some (some (.int .i64 0), 1, 8) := by kernel_rfl
/-- What was there in a world W1 stands, where only what is newer has turned. -/
theorem Sl.old {F : Nat → Prop} {W1 w w' : World} {α : Type} {en : α → List Value} {sz : Nat} {v : Value} {xs : List α} (h1 : Sl W1 en sz v xs) (h : Sl w en sz v xs) (hk : Keeps F w w') (hF : ∀ k, F k → W1.heap.size ≤ k) : Sl w' en sz v xs := by
  obtain ⟨A, c, rfl, h2, h3, hn, h4⟩ := h
  obtain ⟨A', c', e, _, _, _, h4'⟩ := h1
  cases e
  refine ⟨A, c, rfl, h2, h3, hn, fun h0 => ?_⟩
  obtain ⟨b, off, rfl, hlt, hc⟩ := h4 h0
  obtain ⟨b', off', e, hlt', _⟩ := h4' h0
  cases e
  have hb := hk.block b hlt (fun hf => by have := hF b hf; omega)
  exact ⟨b, off, rfl, Nat.lt_of_lt_of_le hlt hk.size, fun k x hx j u hj => (World.cell?_of_block (w := w) hb).trans (hc k x hx j u hj)⟩
end Go.Proofs.YtljinmfkogmmlaaGreat
