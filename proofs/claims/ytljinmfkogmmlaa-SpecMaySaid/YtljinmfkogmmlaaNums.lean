/-
  The cells of rows of numbers and of bytes. Conditions: none.
-/
import Derived.Test.YtljinmfkogmmlaaProg
import Derived.Test.YtljinmfkogmmlaaOwn
namespace Go.Proofs.Ytljinmfkogmmlaa
open Go.ChangeShapes Go.WideShapes Go.Deep Go.RowKit
/-- The cells of a number, of a byte. -/
def numC (x : Int) : List Value := [.int .i64 x]
theorem numC_len {xs : List Int} : ∀ x ∈ xs, (numC x).length = 1 := fun _ _ => rfl
theorem numC_flat (xs : List Int) : (xs.flatMap numC).length = xs.length := by induction xs <;> simp_all [numC]
theorem numC_one {xs : List Int} : ∀ u ∈ xs.flatMap numC, u.oneCell' = true := by
  intro u hu
  simp [numC] at hu
  obtain ⟨a, _, rfl⟩ := hu
  rfl
theorem numC_get (xs : List Int) (j : Nat) : (xs.flatMap numC)[j]? = (xs[j]?).map fun y => Value.int .i64 y := by
  induction xs generalizing j with
  | nil => simp
  | cons y ys ih =>
    cases j with
    | zero => simp [numC]
    | succ j => simpa [numC] using ih j
def bytC (x : UInt8) : List Value := [.int .u8 x.toNat]
theorem bytC_len {xs : List UInt8} : ∀ x ∈ xs, (bytC x).length = 1 := fun _ _ => rfl
theorem bytC_flat (xs : List UInt8) : (xs.flatMap bytC).length = xs.length := by induction xs <;> simp_all [bytC]
theorem bytC_one {xs : List UInt8} : ∀ u ∈ xs.flatMap bytC, u.oneCell' = true := by
  intro u hu
  simp [bytC] at hu
  obtain ⟨a, _, rfl⟩ := hu
  rfl
theorem info_num : (Try.prog.info? 3).map (fun i => (i.zero, i.size, i.bytes)) = some (some (.int .i64 0), 1, 8) := by kernel_rfl
theorem info_byt : (Try.prog.info? 5).map (fun i => (i.zero, i.size, i.bytes)) = some (some (.int .u8 0), 1, 1) := by kernel_rfl
/-- What was there in a world W1 stands, where only what is newer has turned. -/
theorem Sl.old {F : Nat → Prop} {W1 w w' : World} {α : Type} {en : α → List Value} {sz : Nat} {v : Value} {xs : List α} (h1 : Sl W1 en sz v xs) (h : Sl w en sz v xs) (hk : Keeps F w w') (hF : ∀ k, F k → W1.heap.size ≤ k) : Sl w' en sz v xs := by
  obtain ⟨A, c, rfl, h2, h3, hn, h4⟩ := h
  obtain ⟨A', c', e, _, _, _, h4'⟩ := h1
  cases e
  refine ⟨A, c, rfl, h2, h3, hn, fun h0 => ?_⟩
  obtain ⟨b, off, rfl, hlt, hc⟩ := h4 h0
  obtain ⟨b', off', e, hlt', _⟩ := h4' h0
  cases e
  have hb := hk.block b hlt (fun hf => by have := hF b hf; omega)
  exact ⟨b, off, rfl, Nat.lt_of_lt_of_le hlt hk.size, fun k x hx j u hj => (World.cell?_of_block (w := w) hb).trans (hc k x hx j u hj)⟩
end Go.Proofs.Ytljinmfkogmmlaa
