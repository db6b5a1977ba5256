/-
  The order of texts: strings.Compare, the model's '<', and that of lists. No program in sight.
-/
import Derived.Test.YtkllgikmlgponaaTabPlain
namespace Go.Proofs.Ytkllgikmlgponaa
theorem cmp_lt : ∀ a b : List UInt8, Lib.compareBytes a b < 0 ↔ a < b
  | [], [] => by simp [Lib.compareBytes]
  | [], y :: b => by simp [Lib.compareBytes]
  | x :: a, [] => by simp [Lib.compareBytes]
  | x :: a, y :: b => by
    have ih := cmp_lt a b
    rw [Tab.cmp_cons, List.cons_lt_cons_iff]
    by_cases h1 : x.toNat < y.toNat
    · rw [if_pos h1]
      simp [UInt8.lt_iff_toNat_lt, h1]
    · rw [if_neg h1]
      by_cases h2 : y.toNat < x.toNat
      · rw [if_pos h2]
        have hne : x ≠ y := fun e => by subst e; omega
        simp [UInt8.lt_iff_toNat_lt, h1, hne]
      · rw [if_neg h2]
        have he : x = y := UInt8.toNat_inj.1 (by omega)
        subst he
        simp [ih]
theorem less_lt : ∀ a b : List UInt8, Op.bytesLess a b = decide (a < b)
  | [], [] => rfl
  | [], _ :: _ => by simp [Op.bytesLess]
  | _ :: _, [] => by simp [Op.bytesLess]
  | x :: a, y :: b => by
    have ih := less_lt a b
    conv => lhs; unfold Op.bytesLess
    rw [Bool.eq_iff_iff, decide_eq_true_eq, List.cons_lt_cons_iff]
    by_cases h1 : x.toNat < y.toNat
    · simp [UInt8.lt_iff_toNat_lt, h1]
    · by_cases h2 : y.toNat < x.toNat
      · have hne : x ≠ y := fun e => by subst e; omega
        simp [UInt8.lt_iff_toNat_lt, h1, hne]
      · have he : x = y := UInt8.toNat_inj.1 (by omega)
        subst he
        simp [ih]
end Go.Proofs.Ytkllgikmlgponaa
