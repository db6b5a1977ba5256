/-
  Slices of texts: slices.Clone, and whether two are the same. Conditions: at most 2^40 texts.
-/
import Derived.Test.YtljinmfkogmmlaaProg
import Derived.Test.YtljinmfkogmmlaaOwn
import Derived.Test.YtljinmfkogmmlaaTail
namespace Go.Proofs.Ytljinmfkogmmlaa
open Go.ChangeShapes Go.WideShapes Go.Deep Go.RowKit
/-- The cells of a text. -/
def strC (s : List UInt8) : List Value := [.string (B s)]
theorem strC_len {xs : List (List UInt8)} : ∀ x ∈ xs, (strC x).length = 1 := fun _ _ => rfl
theorem strC_flat (xs : List (List UInt8)) : (xs.flatMap strC).length = xs.length := by induction xs <;> simp_all [strC]
theorem strC_one {xs : List (List UInt8)} : ∀ u ∈ xs.flatMap strC, u.oneCell' = true := by
  intro u hu
  simp [strC] at hu
  obtain ⟨a, _, rfl⟩ := hu
  rfl
theorem flat_get (ys : List (List UInt8)) (j : Nat) : (ys.flatMap strC)[j]? = (ys[j]?).map fun y => Value.string (B y) := by
  induction ys generalizing j with
  | nil => simp
  | cons y ys ih =>
    cases j with
    | zero => simp [strC]
    | succ j => simpa [strC] using ih j
theorem Own.cellOk {w : World} {b0 g off n c : Nat} {ys : List (List UInt8)} (h : Own w b0 1 (.slice (some ⟨g, off, none⟩) n c) n (ys.flatMap strC)) (k : Nat) (hk : k < n) :
    ∃ y, ys[k]? = some y ∧ w.cell? ⟨g, off + k, none⟩ = some (.string (B y)) ∧ w.frozen? ⟨g, off + k, none⟩ = false := by
  have hl := h.1
  rw [strC_flat, Nat.mul_one] at hl
  rcases h.2 with ⟨h0, _⟩ | ⟨g', off', c', e, h1, h2, h3, h4, h5, h6⟩
  · omega
  · simp only [Value.slice.injEq, Option.some.injEq, Addr.mk.injEq, and_true, true_and] at e
    obtain ⟨⟨rfl, rfl⟩, rfl⟩ := e
    have hy : ys[k]? = some (ys[k]'(by omega)) := List.getElem?_eq_getElem (by omega)
    exact ⟨_, hy, h6 k _ (by rw [flat_get, hy]; rfl), (h5 k (by omega)).2⟩
theorem own_str {w : World} {b0 g off n c : Nat} {xs : List (List UInt8)} (h : Own w b0 1 (.slice (some ⟨g, off, none⟩) n c) n (xs.flatMap strC)) {i : Nat} {x : List UInt8} (hx : xs[i]? = some x) : w.cell? ⟨g, off + i, none⟩ = some (.string (B x)) ∧ g < w.heap.size := by
  have hi : i < xs.length := (List.getElem?_eq_some_iff.1 hx).1
  rcases h.2 with ⟨h0, e | ⟨g', off', e, hg⟩⟩ | ⟨g', off', c', e, g1, g2, g3, g4, g5, g6⟩
  · cases e
  · exact absurd h.1 (by rw [strC_flat, h0]; omega)
  · injection e with e1
    injection e1 with e1
    injection e1 with e1 e2
    subst e1 e2
    refine ⟨g6 _ _ ?_, g2⟩
    rw [flat_get, hx]
    rfl
theorem info_str : (Try.prog.info? 9).map (fun i => (i.zero, i.size, i.bytes)) = some (some (.string ByteArray.empty), 1, 16) := by kernel_rfl
def ClonePost (xs : List (List UInt8)) (w : World) (e : Ending) (w' : World) : Prop :=
  ∃ v, e = .returned v ∧ Own w' w.heap.size 1 v xs.length (xs.flatMap strC) ∧ Below w.heap.size w w'
end Go.Proofs.Ytljinmfkogmmlaa
