/-
  The model's order of texts is that of strings.Compare; the reference's Set, of a rising row, as a plain function of its rounds.
-/
import Derived.Test.YtkllgikmlgponaaTab10
namespace Go.Proofs.Ytkllgikmlgponaa.Tab
open Go.ChangeShapes Go.WideShapes Go.Deep Go.RowKit
theorem less_cmp : ∀ a b : List UInt8, Op.bytesLess a b = decide (Lib.compareBytes a b < 0)
  | [], [] => rfl
  | [], _ :: _ => rfl
  | _ :: _, [] => rfl
  | x :: a, y :: b => by
    have ih := less_cmp a b
    rw [cmp_cons]
    conv => lhs; unfold Op.bytesLess
    by_cases h1 : x.toNat < y.toNat
    · rw [if_pos h1]
      simp [UInt8.lt_iff_toNat_lt, h1]
    · rw [if_neg h1]
      by_cases h2 : y.toNat < x.toNat
      · rw [if_pos h2]
        have hne : x ≠ y := fun e => by subst e; omega
        simp [UInt8.lt_iff_toNat_lt, h1, hne]
      · rw [if_neg h2]
        have he : x = y := UInt8.toNat_inj.1 (by omega)
        subst he
        simp [ih]
/-- The row behind a Set. -/
def setL (xs : List Ent) (s v : List UInt8) : List Ent := if there xs s = true then xs.set (place xs s) ⟨s, v⟩ else xs.take (place xs s) ++ ⟨s, v⟩ :: xs.drop (place xs s)
/-- The reference's row behind k rounds. -/
def setK (xs : List Ent) (s v : List UInt8) (k : Nat) : List Ent :=
  if k ≤ place xs s then xs.take k else xs.take (place xs s) ++ ⟨s, v⟩ :: (xs.take k).drop (place xs s + if there xs s = true then 1 else 0)
theorem setK_end (xs : List Ent) (s v : List UInt8) : (if place xs s < xs.length then setK xs s v xs.length else xs ++ [⟨s, v⟩]) = setL xs s v := by
  have hp := place_le xs s
  unfold setL setK
  by_cases h : place xs s < xs.length
  · rw [if_pos h, if_neg (by omega), List.take_length]
    cases ht : there xs s with
    | true => rw [if_pos rfl, if_pos rfl, List.set_eq_take_append_cons_drop, if_pos h]
    | false => rw [if_neg (by simp), if_neg (by simp), Nat.add_zero]
  · have he : place xs s = xs.length := by omega
    have ht : there xs s = false := by unfold there; rw [he, List.getElem?_eq_none (Nat.le_refl _)]; rfl
    rw [if_neg h, ht, if_neg (by simp), he, List.take_length, List.drop_length]
end Go.Proofs.Ytkllgikmlgponaa.Tab
