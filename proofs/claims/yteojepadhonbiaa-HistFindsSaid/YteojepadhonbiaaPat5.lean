/-
  The walks of layer 16 (pattern): classes named in a text, by the reference and by the program. Conditions: texts of at most 2^30 bytes.
-/
import Derived.Test.YteojepadhonbiaaPat4
namespace Go.Proofs.Yteojepadhonbiaa.Pat
open Go.ChangeShapes Go.WideShapes Go.Deep Go.RowKit
set_option maxRecDepth 100000
theorem wrapb (k : Nat) (h : k < 256) : IntKind.u8.wrap (k : Int) = ((UInt8.ofNat k).toNat : Int) := by
  rw [wraps_u8 _ (by omega) (by omega)]
  simp; omega
set_option maxHeartbeats 1600000 in
theorem known_walk (name : List UInt8) (w : World) : Calls Try.prog 134 #[.string (B name)] w fun e w' => e = .returned (.bool (known name)) ∧ w = w' := by
  obtain ⟨r, hr⟩ : ∃ r, r = known name := ⟨_, rfl⟩
  rw [← hr]
  have HR := Lib.hid hr
  clear hr
  go_enter Try.func134, Try.ntmps134
  go_wp2
  go_loop [3] (fun i => ∃ k : Nat, k ≤ 128 ∧ i = .int .i64 k ∧ Hid (∀ j, j < k → inCls name (UInt8.ofNat j) = false)) (fun i => 128 - (intOf i).toNat)
  case atStart => exact ⟨0, by omega, rfl, fun j h => by omega⟩
  case round =>
    obtain ⟨k, hk, rfl, HF⟩ := hrel
    by_cases hlt : k < 128
    · have hw := wrapb k (by omega)
      cases hx : inCls name (UInt8.ofNat k) with
      | true =>
        have HO := Lib.hid fun w => of_any name (UInt8.ofNat k) w
        rw [hx] at HO
        have HX := Lib.hid hx
        clear hx
        go_wp2_with (go_at_call 124; refine (HO.out _).mono ?_; rintro e w' ⟨rfl, rfl⟩)
        go_ret
        refine ⟨ret_b ?_, rfl⟩
        rw [HR.out, ← known_any]
        exact (List.any_eq_true.2 ⟨k, by simpa using hlt, HX.out⟩).symm
      | false =>
        have HO := Lib.hid fun w => of_any name (UInt8.ofNat k) w
        rw [hx] at HO
        have HX := Lib.hid hx
        clear hx
        go_wp2_with (go_at_call 124; refine (HO.out _).mono ?_; rintro e w' ⟨rfl, rfl⟩)
        go_round
        case rel =>
          refine ⟨k + 1, by omega, by go_num, fun j hj => ?_⟩
          by_cases hjk : j < k
          · exact HF.out j hjk
          · obtain rfl : j = k := by omega
            exact HX.out
        case measure => simp [intOf]; omega
    · have hk' : k = 128 := by omega
      have HK := Lib.hid hk'
      clear hk'
      go_wp2
      go_ret
      refine ⟨ret_b ?_, rfl⟩
      rw [HR.out, ← known_any]
      refine (List.any_eq_false.2 fun j hj => ?_).symm
      rw [HF.out j (by have := HK.out; simp at hj; omega)]
      simp
def clsL (p : List UInt8) (n : Nat) : Nat := match clsAt p n with
  | none => 0
  | some nm => nm.length + 4
def clsN (p : List UInt8) (n : Nat) : List UInt8 := match clsAt p n with
  | none => []
  | some nm => nm
theorem cls_some {p : List UInt8} {n : Nat} {nm : List UInt8} (h : clsAt p n = some nm) : clsL p n = nm.length + 4 ∧ clsN p n = nm := by unfold clsL clsN; rw [h]; exact ⟨rfl, rfl⟩
theorem cls_none {p : List UInt8} {n : Nat} (h : clsAt p n = none) : clsL p n = 0 ∧ clsN p n = [] := by unfold clsL clsN; rw [h]; exact ⟨rfl, rfl⟩
theorem clsK_cases {p : List UInt8} {n k : Nat} (h : clsK p n k = false) :
    (decide ((n : Int) + k + 4 ≤ (p.length : Int)) = false) ∨
    ((n : Int) + k + 4 ≤ (p.length : Int) ∧ ((p.take (n + 2)).drop n == [91, 58]) = false) ∨
    ((n : Int) + k + 4 ≤ (p.length : Int) ∧ ((p.take (n + 2)).drop n == [91, 58]) = true ∧ ((p.take (n + 4 + k)).drop (n + 2 + k) == [58, 93]) = false) ∨
    ((n : Int) + k + 4 ≤ (p.length : Int) ∧ ((p.take (n + 2)).drop n == [91, 58]) = true ∧ ((p.take (n + 4 + k)).drop (n + 2 + k) == [58, 93]) = true ∧ known (nmK p n k) = false) := by
  unfold clsK at h
  by_cases h1 : n + k + 4 ≤ p.length
  · rw [yes h1, Bool.true_and] at h
    cases h2 : ((p.take (n + 2)).drop n == [91, 58]) with
    | false => exact .inr (.inl ⟨by omega, rfl⟩)
    | true =>
      rw [h2, Bool.true_and] at h
      cases h3 : ((p.take (n + 4 + k)).drop (n + 2 + k) == [58, 93]) with
      | false => exact .inr (.inr (.inl ⟨by omega, rfl, rfl⟩))
      | true =>
        rw [h3, Bool.true_and] at h
        exact .inr (.inr (.inr ⟨by omega, rfl, rfl, h⟩))
  · exact .inl (no (by omega))
theorem clsK_all {p : List UInt8} {n k : Nat} (h : clsK p n k = true) : (n : Int) + k + 4 ≤ (p.length : Int) ∧ ((p.take (n + 2)).drop n == [91, 58]) = true ∧ ((p.take (n + 4 + k)).drop (n + 2 + k) == [58, 93]) = true ∧ known (nmK p n k) = true := by
  simp only [clsK, Bool.and_eq_true, decide_eq_true_eq] at h
  exact ⟨by have := h.1.1.1; omega, h.1.1.2, h.1.2, h.2⟩
theorem clsAt_of {p : List UInt8} {n k : Nat} (h5 : 5 ≤ k ∧ k < 7) (h : clsK p n k = true) (hf : ∀ j, 5 ≤ j → j < k → clsK p n j = false) : clsAt p n = some (nmK p n k) := by
  unfold clsAt
  by_cases hk : k = 5
  · subst hk; rw [if_pos h]
  · obtain rfl : k = 6 := by omega
    rw [hf 5 (by omega) (by omega), if_neg (by simp), if_pos h]
theorem clsAt_none {p : List UInt8} {n : Nat} (hf : ∀ j, 5 ≤ j → j < 7 → clsK p n j = false) : clsAt p n = none := by
  unfold clsAt
  rw [hf 5 (by omega) (by omega), if_neg (by simp), hf 6 (by omega) (by omega), if_neg (by simp)]
theorem more_false {f : Nat → Bool} {k : Nat} (h : ∀ j, 5 ≤ j → j < k → f j = false) (hk : f k = false) : ∀ j, 5 ≤ j → j < k + 1 → f j = false := fun j h1 h2 => by
  by_cases hj : j < k
  · exact h j h1 hj
  · obtain rfl : j = k := by omega
    exact hk
set_option maxHeartbeats 3200000 in
theorem class_ref (p : List UInt8) (n : Nat) (w : World) (hp : p.length ≤ 1073741824) (hn : n ≤ 1073741824) :
    Calls Try.prog 122 #[.string (B p), .int .i64 n] w fun e w' => e = .returned (.tuple #[.int .i64 (clsL p n), .string (B (clsN p n))]) ∧ Below w.heap.size w w' := by
  obtain ⟨r1, h1⟩ : ∃ r, r = clsL p n := ⟨_, rfl⟩
  obtain ⟨r2, h2⟩ : ∃ r, r = clsN p n := ⟨_, rfl⟩
  rw [← h1, ← h2]
  have HR := Lib.hid (And.intro h1 h2)
  clear h1 h2
  go_enter Try.func122, Try.ntmps122
  go_wp2
  go_loopw [6] (fun i w' => ∃ k : Nat, 5 ≤ k ∧ k ≤ 7 ∧ i = .int .i64 k ∧ Hid (∀ j, 5 ≤ j → j < k → clsK p n j = false) ∧ w' = w) (fun i _ => 7 - (intOf i).toNat)
  case atStart => exact ⟨5, by omega, by omega, rfl, fun j h1 h => by omega, rfl⟩
  case round =>
    obtain ⟨k, hk5, hk, rfl, HF, rfl⟩ := hrel
    by_cases hlt : k < 7
    · have d0 : (k : Int) ≤ 6 := by omega
      have hkn := Lib.hid fun w => known_walk (nmK p n k) w
      cases hc : clsK p n k with
      | true =>
        obtain ⟨c1, c2, c3, c4⟩ := clsK_all hc
        have HC := Lib.hid hc
        rw [c4] at hkn
        unfold nmK at hkn
        have HA := Lib.hid (clsAt_of (by omega) HC.out HF.out)
        clear hc c4
        go_wp2_with (go_at_call 134; refine (hkn.out _).mono ?_; rintro e w' ⟨rfl, rfl⟩)
        have q1 : IntKind.i64.wrap ((k : Int) + 4) = (k : Int) + 4 := IntWalk.i64_in _ (by omega)
        have q2 : IntKind.i64.wrap ((n : Int) + 2) = (n : Int) + 2 := IntWalk.i64_in _ (by omega)
        have q3 : IntKind.i64.wrap ((n : Int) + 2 + (k : Int)) = (n : Int) + 2 + (k : Int) := IntWalk.i64_in _ (by omega)
        have q4 : (0 : Int) ≤ (n : Int) + 2 := by omega
        have q5 : (n : Int) + 2 ≤ (n : Int) + 2 + (k : Int) := by omega
        have q6 : (n : Int) + 2 + (k : Int) ≤ (p.length : Int) := by omega
        have q7 : ((n : Int) + 2).toNat = n + 2 := by omega
        have q8 : ((n : Int) + 2 + (k : Int)).toNat = n + 2 + k := by omega
        have HL := Lib.hid (nmK_len (p := p) (n := n) (k := k) (by omega))
        go_quiet (fail)
        go_wp2
        go_ret2
        refine ⟨?_, by (repeat (first | with_reducible exact Below.refl _ _ | with_reducible assumption | with_reducible refine below_alloc ?_ _ | with_reducible refine below_grow ?_ _ | with_reducible refine below_drewN ?_ _ | with_reducible refine below_drew ?_ | with_reducible refine below_setCell ?_ (by first | (dsimp only; omega) | (simp; done) | (simp; omega)) _))⟩
        obtain ⟨r1, r2⟩ := HR.out
        rw [r1, r2, (cls_some HA.out).1, (cls_some HA.out).2, HL.out]
        rfl
      | false =>
        have HC := Lib.hid hc
        clear HC
        rcases clsK_cases hc with c1 | ⟨c1, c2⟩ | ⟨c1, c2, c3⟩ | ⟨c1, c2, c3, c4⟩
        rotate_right
        · rw [c4] at hkn
          unfold nmK at hkn
          have HC := Lib.hid hc
          clear hc c4
          go_wp2_with (go_at_call 134; refine (hkn.out _).mono ?_; rintro e w' ⟨rfl, rfl⟩)
          go_roundw
          case rel => exact ⟨k + 1, by omega, by omega, by go_num, more_false HF.out HC.out, trivial⟩
          case measure => simp [intOf]; omega
        all_goals
          have HC := Lib.hid hc
          clear hc
          go_wp2
          go_roundw
          case rel => exact ⟨k + 1, by omega, by omega, by go_num, more_false HF.out HC.out, trivial⟩
          case measure => simp [intOf]; omega
    · have HK := Lib.hid (show k = 7 by omega)
      have HA : Hid (clsAt p n = none) := clsAt_none (fun j h1 h2 => HF.out j h1 (by have := HK.out; omega))
      go_wp2
      go_ret2
      refine ⟨?_, Below.refl _ _⟩
      obtain ⟨r1, r2⟩ := HR.out
      rw [r1, r2, (cls_none HA.out).1, (cls_none HA.out).2]
      rfl
end Go.Proofs.Yteojepadhonbiaa.Pat
