/-
  Names in order (layer 19): the order of texts, rows of entries that rise, where a name stands. No program in sight.
-/
import Derived.Lib.Bytealg
namespace Go.Proofs.YtljinmfkogmmlaaGreat.Tab
open Go.Lib
theorem cmp_cons (x y : UInt8) (a b : List UInt8) : compareBytes (x :: a) (y :: b) = if x.toNat < y.toNat then -1 else if y.toNat < x.toNat then 1 else compareBytes a b := by
  conv => lhs; unfold compareBytes
  simp only [UInt8.lt_iff_toNat_lt]
theorem cmp_self : ∀ a, compareBytes a a = 0
  | [] => rfl
  | x :: a => by rw [cmp_cons, if_neg (Nat.lt_irrefl _), if_neg (Nat.lt_irrefl _), cmp_self a]
theorem cmp_zero : ∀ {a b}, compareBytes a b = 0 → a = b
  | [], [], _ => rfl
  | [], y :: b, h => by simp [compareBytes] at h
  | x :: a, [], h => by simp [compareBytes] at h
  | x :: a, y :: b, h => by
    rw [cmp_cons] at h
    split at h
    · cases h
    · split at h
      · cases h
      · rw [cmp_zero h, UInt8.toNat_inj.1 (by omega : x.toNat = y.toNat)]
theorem cmp_anti : ∀ (a b), compareBytes b a = - compareBytes a b
  | [], [] => rfl
  | [], y :: b => rfl
  | x :: a, [] => rfl
  | x :: a, y :: b => by
    rw [cmp_cons, cmp_cons, cmp_anti a b]
    repeat' split
    all_goals omega
theorem cmp_trans : ∀ {a b c}, compareBytes a b < 0 → compareBytes b c < 0 → compareBytes a c < 0
  | [], [], c, h, _ => by simp [compareBytes] at h
  | [], y :: b, [], _, h => by simp [compareBytes] at h
  | [], y :: b, z :: c, _, _ => by simp [compareBytes]
  | x :: a, [], c, h, _ => by simp [compareBytes] at h
  | x :: a, y :: b, [], _, h => by simp [compareBytes] at h
  | x :: a, y :: b, z :: c, h, h' => by
    rw [cmp_cons] at h h' ⊢
    by_cases h1 : x.toNat < z.toNat
    · rw [if_pos h1]; decide
    · rw [if_neg h1]
      split at h
      · rw [if_neg (by omega)] at h'
        rw [if_pos (by omega)] at h'
        simp at h'
      · split at h
        · simp at h
        · split at h'
          · omega
          · split at h'
            · simp at h'
            · rw [if_neg (by omega)]
              exact cmp_trans h h'
/-- An entry of a table. -/
structure Ent where
  name : List UInt8
  val : List UInt8
/-- Entries that rise. -/
def Rises (xs : List Ent) : Prop := xs.Pairwise fun a b => compareBytes a.name b.name < 0
/-- Where a name stands, or would. -/
def place (xs : List Ent) (s : List UInt8) : Nat := (xs.takeWhile fun e => compareBytes e.name s < 0).length
theorem place_le (xs : List Ent) (s : List UInt8) : place xs s ≤ xs.length := by
  unfold place
  induction xs with
  | nil => simp
  | cons e xs ih => rw [List.takeWhile_cons]; split <;> simp <;> omega
theorem place_iff {xs : List Ent} (h : Rises xs) (s : List UInt8) {t : Nat} (ht : t < xs.length) : compareBytes xs[t].name s < 0 ↔ t < place xs s := by
  induction xs generalizing t with
  | nil => simp at ht
  | cons e xs ih =>
    have hp := List.pairwise_cons.1 h
    unfold place at *
    rw [List.takeWhile_cons]
    by_cases he : compareBytes e.name s < 0
    · rw [if_pos (by simpa using he)]
      cases t with
      | zero => simp [he]
      | succ t => simpa using ih hp.2 (by simpa using ht)
    · rw [if_neg (by simpa using he)]
      simp only [List.length_nil, Nat.not_lt_zero, iff_false]
      cases t with
      | zero => simpa using he
      | succ t =>
        intro hlt
        have hm : xs[t]'(by simpa using ht) ∈ xs := List.getElem_mem _
        exact he (cmp_trans (hp.1 _ hm) (by simpa using hlt))
end Go.Proofs.YtljinmfkogmmlaaGreat.Tab
