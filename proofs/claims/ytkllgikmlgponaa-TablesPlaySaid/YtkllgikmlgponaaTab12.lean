/-
  The walk of layer 19's reference: Set, of a rising row. Conditions: fewer than 10000 entries.
-/
import Derived.Test.YtkllgikmlgponaaTab11
namespace Go.Proofs.Ytkllgikmlgponaa.Tab
open Go.ChangeShapes Go.WideShapes Go.Deep Go.RowKit
set_option maxRecDepth 100000
theorem setK_lo {xs : List Ent} {s v : List UInt8} {k : Nat} {x : Ent} (hx : xs[k]? = some x) (hk : k < place xs s) : setK xs s v (k + 1) = setK xs s v k ++ [x] := by
  obtain ⟨h1, rfl⟩ := List.getElem?_eq_some_iff.1 hx
  unfold setK
  rw [if_pos (by omega), if_pos (by omega), List.take_succ_eq_append_getElem h1]
theorem setK_at {xs : List Ent} {s v : List UInt8} {k : Nat} {x : Ent} (hx : xs[k]? = some x) (hk : k = place xs s) : setK xs s v (k + 1) = if there xs s = true then setK xs s v k ++ [⟨s, v⟩] else setK xs s v k ++ [⟨s, v⟩] ++ [x] := by
  obtain ⟨h1, rfl⟩ := List.getElem?_eq_some_iff.1 hx
  have a1 : ¬ (k + 1 ≤ place xs s) := by omega
  have a2 : k ≤ place xs s := by omega
  have hl : (xs.take k).length = k := by rw [List.length_take]; omega
  unfold setK
  simp only [if_neg a1, if_pos a2]
  rw [← hk, List.take_succ_eq_append_getElem h1]
  cases ht : there xs s with
  | true =>
    simp only [if_true]
    rw [List.drop_eq_nil_of_le (by rw [List.length_append, hl]; simp)]
  | false =>
    simp only [Bool.false_eq_true, if_false, Nat.add_zero]
    rw [List.drop_left' hl, List.append_assoc]
    rfl
theorem setK_hi {xs : List Ent} {s v : List UInt8} {k : Nat} {x : Ent} (hx : xs[k]? = some x) (hk : place xs s < k) : setK xs s v (k + 1) = setK xs s v k ++ [x] := by
  obtain ⟨h1, rfl⟩ := List.getElem?_eq_some_iff.1 hx
  have a1 : ¬ (k + 1 ≤ place xs s) := by omega
  have a2 : ¬ (k ≤ place xs s) := by omega
  have hl : (xs.take k).length = k := by rw [List.length_take]; omega
  unfold setK
  simp only [if_neg a1, if_neg a2]
  rw [List.take_succ_eq_append_getElem h1, List.drop_append_of_le_length (by rw [hl]; split <;> omega)]
  simp
theorem setK_le (xs : List Ent) (s v : List UInt8) (k : Nat) (hk : k ≤ xs.length) : (setK xs s v k).length ≤ k + 1 := by
  unfold setK
  split
  · rw [List.length_take]; omega
  · rw [List.length_append, List.length_cons, List.length_drop, List.length_take, List.length_take]; omega
end Go.Proofs.Ytkllgikmlgponaa.Tab
