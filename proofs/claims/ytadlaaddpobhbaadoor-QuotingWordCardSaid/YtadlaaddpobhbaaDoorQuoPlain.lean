/-
  Forms of texts (layer 17), plainly. No program in sight.
-/
import Derived.Lib.Replace
import Derived.Lib.IndexBytes
import Derived.Lib.IndexLaws
namespace Go.Proofs.YtadlaaddpobhbaaDoor.Quo
open Go.Lib
theorem replaceK_one (c : UInt8) (new : List UInt8) : ∀ s : List UInt8, replaceK [c] new (s.count c) s = s.flatMap fun b => if b = c then new else [b]
  | [] => rfl
  | b :: l => by
    have ih := replaceK_one c new l
    rw [List.flatMap_cons]
    by_cases h : b = c
    · subst h
      rw [List.count_cons_self, replaceK_hit [b] new _ _ 0 (by rw [index_one]; simp [indexByte])]
      simp [ih]
    · rw [List.count_cons_of_ne h, if_neg h]
      cases hk : l.count c with
      | zero =>
        rw [hk] at ih
        rw [← ih]
        rfl
      | succ k =>
        obtain ⟨i, hi⟩ := index_of_count (s := l) (old := [c]) (by rw [count_one, hk]; omega)
        have hi2 : index (b :: l) [c] = ((i + 1 : Nat) : Int) := by
          rw [index_one] at hi ⊢
          unfold indexByte
          rw [if_neg (by simpa using h), if_neg (by rw [hi]; simp), hi]
          omega
        rw [hk, replaceK_hit [c] new k l i hi] at ih
        rw [replaceK_hit [c] new k (b :: l) (i + 1) hi2]
        simp only [List.take_succ_cons, List.length_cons, List.length_nil] at ih ⊢
        rw [show i + 1 + (0 + 1) = (i + (0 + 1)) + 1 by omega, List.drop_succ_cons, List.cons_append, List.cons_append, ih]
        rfl
theorem replaceAll_one (c : UInt8) (new s : List UInt8) (h : [c] ≠ new) : replaceAll s [c] new = s.flatMap fun b => if b = c then new else [b] := by
  unfold replaceAll replace replaceNum
  rw [if_neg (by simpa using h), if_pos (.inl (by omega)), count_one]
  exact replaceK_one c new s
/-- A text's form between single quotes, its end left out; between double ones. -/
def sglL (s : List UInt8) : List UInt8 := 39 :: s.flatMap fun b => if b = 39 then [39, 92, 39, 39] else [b]
def dblB (b : UInt8) : Bool := b == 36 || b == 96 || b == 34 || b == 92
def dblL (s : List UInt8) : List UInt8 := 34 :: s.flatMap fun b => if dblB b = true then [92, b] else [b]
end Go.Proofs.YtadlaaddpobhbaaDoor.Quo
