/-
  The walks of layer 16 (pattern): whether an atom takes a byte. Conditions: none.
-/
import Derived.Test.YteojepadhonbiaaPat12
namespace Go.Proofs.Yteojepadhonbiaa.Pat
open Go.ChangeShapes Go.WideShapes Go.Deep Go.RowKit
set_option maxRecDepth 100000
theorem beq_swap (x b : UInt8) : ((x.toNat : Int) == (b.toNat : Int)) = (x == b) := by
  by_cases h : x = b
  · subst h; simp
  · rw [u8_ne h]; exact (beq_eq_false_iff_ne.2 h).symm
theorem takes_any (a : At) (b : UInt8) (w : World) : Calls Try.prog 103 #[atV a, .int .u8 b.toNat] w fun e w' => e = .returned (.bool (takes a b)) ∧ Below w.heap.size w w' := by
  cases a with
  | byte x =>
    rw [atV_byte]
    go_enter Try.func103, Try.ntmps103
    go_wp2
    go_ret
    exact ⟨ret_b (beq_swap _ _), by (repeat (first | with_reducible exact Below.refl _ _ | with_reducible assumption | with_reducible refine below_alloc ?_ _ | with_reducible refine below_grow ?_ _ | with_reducible refine below_drewN ?_ _ | with_reducible refine below_drew ?_ | with_reducible refine below_setCell ?_ (by first | (dsimp only; omega) | (simp; done) | (simp; omega)) _))⟩
  | one =>
    rw [atV_one]
    go_enter Try.func103, Try.ntmps103
    go_wp2
    go_ret
    exact ⟨rfl, by (repeat (first | with_reducible exact Below.refl _ _ | with_reducible assumption | with_reducible refine below_alloc ?_ _ | with_reducible refine below_grow ?_ _ | with_reducible refine below_drewN ?_ _ | with_reducible refine below_drew ?_ | with_reducible refine below_setCell ?_ (by first | (dsimp only; omega) | (simp; done) | (simp; omega)) _))⟩
  | many =>
    rw [atV_many]
    go_enter Try.func103, Try.ntmps103
    go_wp2
    go_ret
    exact ⟨rfl, by (repeat (first | with_reducible exact Below.refl _ _ | with_reducible assumption | with_reducible refine below_alloc ?_ _ | with_reducible refine below_grow ?_ _ | with_reducible refine below_drewN ?_ _ | with_reducible refine below_drew ?_ | with_reducible refine below_setCell ?_ (by first | (dsimp only; omega) | (simp; done) | (simp; omega)) _))⟩
  | set f =>
    rw [atV_set]
    have HH := Lib.hid fun w => has_any f b w
    unfold setV at HH
    go_enter Try.func103, Try.ntmps103
    go_wp2_with (go_at_call 125; refine (HH.out _).mono ?_; rintro e w' ⟨rfl, hb⟩; obtain ⟨g, rfl⟩ := to_grow hb; clear hb)
    go_ret
    exact ⟨rfl, by (repeat (first | with_reducible exact Below.refl _ _ | with_reducible assumption | with_reducible refine below_alloc ?_ _ | with_reducible refine below_grow ?_ _ | with_reducible refine below_drewN ?_ _ | with_reducible refine below_drew ?_ | with_reducible refine below_setCell ?_ (by first | (dsimp only; omega) | (simp; done) | (simp; omega)) _))⟩
theorem words6_get (f : UInt8 → Bool) (c : UInt8) : [Value.int .i64 4, .int .u8 0, .int .u64 (wordOf f 0 : Nat), .int .u64 (wordOf f 1 : Nat), .int .u64 (wordOf f 2 : Nat), .int .u64 (wordOf f 3 : Nat)][2 + c.toNat / 64]? = some (.int .u64 (wordOf f (c.toNat / 64) : Nat)) := by
  have h := words_get f c
  rw [show 2 + c.toNat / 64 = c.toNat / 64 + 1 + 1 by omega, List.getElem?_cons_succ, List.getElem?_cons_succ]
  exact h
theorem takes_ref (a : At) (b : UInt8) (w : World) : Calls Try.prog 72 #[atV a, .int .u8 b.toNat] w fun e w' => e = .returned (.bool (takes a b)) ∧ Below w.heap.size w w' := by
  cases a with
  | byte x =>
    rw [atV_byte]
    cases h : (x == b) with
    | true =>
      have h1 := beq_swap x b
      rw [h] at h1
      have HT := Lib.hid (show takes (.byte x) b = true from h)
      clear h
      go_enter Try.func72, Try.ntmps72
      go_wp2
      go_ret
      exact ⟨ret_b HT.out.symm, by (repeat (first | with_reducible exact Below.refl _ _ | with_reducible assumption | with_reducible refine below_alloc ?_ _ | with_reducible refine below_grow ?_ _ | with_reducible refine below_drewN ?_ _ | with_reducible refine below_drew ?_ | with_reducible refine below_setCell ?_ (by first | (dsimp only; omega) | (simp; done) | (simp; omega)) _))⟩
    | false =>
      have h1 := beq_swap x b
      rw [h] at h1
      have HT := Lib.hid (show takes (.byte x) b = false from h)
      clear h
      go_enter Try.func72, Try.ntmps72
      go_wp2
      go_ret
      exact ⟨ret_b HT.out.symm, by (repeat (first | with_reducible exact Below.refl _ _ | with_reducible assumption | with_reducible refine below_alloc ?_ _ | with_reducible refine below_grow ?_ _ | with_reducible refine below_drewN ?_ _ | with_reducible refine below_drew ?_ | with_reducible refine below_setCell ?_ (by first | (dsimp only; omega) | (simp; done) | (simp; omega)) _))⟩
  | one =>
    rw [atV_one]
    go_enter Try.func72, Try.ntmps72
    go_wp2
    go_ret
    exact ⟨rfl, by (repeat (first | with_reducible exact Below.refl _ _ | with_reducible assumption | with_reducible refine below_alloc ?_ _ | with_reducible refine below_grow ?_ _ | with_reducible refine below_drewN ?_ _ | with_reducible refine below_drew ?_ | with_reducible refine below_setCell ?_ (by first | (dsimp only; omega) | (simp; done) | (simp; omega)) _))⟩
  | many =>
    rw [atV_many]
    go_enter Try.func72, Try.ntmps72
    go_wp2
    go_ret
    exact ⟨rfl, by (repeat (first | with_reducible exact Below.refl _ _ | with_reducible assumption | with_reducible refine below_alloc ?_ _ | with_reducible refine below_grow ?_ _ | with_reducible refine below_drewN ?_ _ | with_reducible refine below_drew ?_ | with_reducible refine below_setCell ?_ (by first | (dsimp only; omega) | (simp; done) | (simp; omega)) _))⟩
  | set f =>
    rw [atV_set]
    have hg := words6_get f b
    have hb := hasbit f b
    have i0 : (0 : Int) ≤ (b.toNat : Int) / 64 := by omega
    have i1 : (b.toNat : Int) / 64 < 4 := by have := b.toNat_lt; omega
    have i2 : b.toNat < 256 := b.toNat_lt
    have j1 : b.toNat % 64 ≤ 64 := by omega
    cases hf : f b
    all_goals
      rw [hf] at hb
      have HF := Lib.hid (show takes (.set f) b = f b from rfl)
      rw [hf] at HF
      clear hf
      go_enter Try.func72, Try.ntmps72
      go_wp2
      go_ret
      exact ⟨ret_b HF.out.symm, by (repeat (first | with_reducible exact Below.refl _ _ | with_reducible assumption | with_reducible refine below_alloc ?_ _ | with_reducible refine below_grow ?_ _ | with_reducible refine below_drewN ?_ _ | with_reducible refine below_drew ?_ | with_reducible refine below_setCell ?_ (by first | (dsimp only; omega) | (simp; done) | (simp; omega)) _))⟩
end Go.Proofs.Yteojepadhonbiaa.Pat
