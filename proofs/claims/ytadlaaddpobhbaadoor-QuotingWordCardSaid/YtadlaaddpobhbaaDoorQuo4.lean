/-
  The walks of layer 17's reference: the forms of a text, the shortest one; and of its law's opening. Conditions: texts of at most 2^30 bytes.
-/
import Derived.Test.YtadlaaddpobhbaaDoorQuo3
namespace Go.Proofs.YtadlaaddpobhbaaDoor.Quo
open Go.ChangeShapes Go.WideShapes Go.Deep Go.RowKit Cls Bd Pat
set_option maxRecDepth 100000
def allB (s : List UInt8) (k : Int) : Bool := s.all fun c => clsB c == k
theorem all_any (s : List UInt8) (k : Int) (w : World) (hs : s.length ≤ 1073741824) : Calls Tryd.prog 25 #[.string (B s), .int .i64 k] w fun e w' => e = .returned (.bool (allB s k)) ∧ w = w' := by
  have HC := Lib.hid fun c w => refClass_any c w
  go_enter Tryd.func25, Tryd.ntmps25
  go_wp2
  go_loopw [5] (fun i w' => ∃ j : Nat, j ≤ s.length ∧ i = .int .i64 j ∧ w = w' ∧ Hid (allB (s.take j) k = true)) (fun i _ => s.length - (intOf i).toNat)
  case atStart => exact ⟨0, by omega, rfl, rfl, rfl⟩
  case round =>
    obtain ⟨j, hj, rfl, rfl, HT⟩ := hrel
    by_cases hlt : j < s.length
    · have h0 : (0 : Int) ≤ (j : Int) := by omega
      have h1 : (j : Int) < (s.length : Int) := by omega
      have HCC := Lib.hid fun w => HC.out s[j] w
      have hst : allB (s.take (j + 1)) k = (allB (s.take j) k && (clsB s[j] == k)) := by
        unfold allB
        rw [List.take_succ_eq_append_getElem hlt, List.all_append]
        simp
      rw [HT.out, Bool.true_and] at hst
      have HST := Lib.hid hst
      clear hst
      cases hc : (clsB s[j] == k) with
      | true =>
        have hn : (clsB s[j] != k) = false := by rw [bne, hc]; rfl
        rw [hc] at HST
        clear hc
        generalize clsB s[j] = c at *
        go_wp2_with (go_at_call 27; refine (HCC.out _).mono ?_; rintro e w' ⟨rfl, rfl⟩)
        go_roundw
        case rel => exact ⟨j + 1, by omega, by go_num, by trivial, HST.out⟩
        case measure => simp [intOf]; omega
      | false =>
        have hn : (clsB s[j] != k) = true := by rw [bne, hc]; rfl
        have hres : allB s k = false := by
          have h2 : allB s k = (allB (s.take (j + 1)) k && allB (s.drop (j + 1)) k) := by
            unfold allB
            rw [← List.all_append, List.take_append_drop]
          rw [h2, HST.out, hc, Bool.false_and]
        have HRES := Lib.hid hres
        clear hc hres
        generalize clsB s[j] = c at *
        go_wp2_with (go_at_call 27; refine (HCC.out _).mono ?_; rintro e w' ⟨rfl, rfl⟩)
        go_ret
        exact ⟨by rw [HRES.out]; rfl, rfl⟩
    · have hj' : j = s.length := by omega
      subst hj'
      rw [List.take_length] at HT
      clear hlt
      go_wp2
      go_ret
      exact ⟨by rw [HT.out]; rfl, rfl⟩
theorem res_nil : resB [] = false := by decide +kernel
theorem res_blank {s : List UInt8} (h : s.contains 32 = true) : resB s = false := by
  cases hr : resB s with
  | false => rfl
  | true =>
    have hall : ∀ x ∈ resL, x.contains 32 = false := by decide +kernel
    have := hall s (List.contains_iff_mem.1 hr)
    rw [h] at this
    cases this
set_option maxHeartbeats 1000000 in
theorem refReserved_any (s : List UInt8) (w : World) (hs : s.length ≤ 1073741824) : Calls Tryd.prog 26 #[.string (B s)] w fun e w' => e = .returned (.bool (resB s)) ∧ w = w' := by
  by_cases h0 : s = []
  · subst h0
    rw [res_nil]
    go_enter Tryd.func26, Tryd.ntmps26
    go_wp2
    go_ret
    exact ⟨rfl, rfl⟩
  have hl : 0 < s.length := List.length_pos_iff.2 h0
  have l0 : ((s.length : Int) == 0) = false := by simp [h0]
  have HI := Lib.hid fun w => in_any 32 s w (by omega)
  rw [show ((32 : UInt8).toNat : Int) = 32 by decide] at HI
  cases hc : s.contains 32 with
  | true =>
    rw [res_blank hc]
    rw [hc] at HI
    clear hc h0 hl
    go_enter Tryd.func26, Tryd.ntmps26
    go_wp2_with (go_at_call 24; refine (HI.out _).mono ?_; rintro e w' ⟨rfl, rfl⟩)
    go_ret
    exact ⟨rfl, rfl⟩
  | false =>
    have h32 : 32 ∉ s := by
      intro h
      rw [List.contains_iff_mem.2 h] at hc
      cases hc
    rw [hc] at HI
    have hno : ∀ i, i + (32 :: (s ++ [32])).length ≤ 65 → (resW.take (i + (32 :: (s ++ [32])).length)).drop i = 32 :: (s ++ [32]) → resB s = true := by
      intro i hi he
      rw [List.drop_take, Nat.add_sub_cancel_left, show (32 :: (s ++ [32])).length = s.length + 2 by simp] at he
      exact res_no h0 h32 (i := i) (by rw [show resW.length = 65 by decide]; simpa using hi) he
    have hyes : resB s = true → ∃ i, i + (32 :: (s ++ [32])).length ≤ 65 ∧ (resW.take (i + (32 :: (s ++ [32])).length)).drop i = 32 :: (s ++ [32]) := by
      intro h
      obtain ⟨i, h1, h2⟩ := res_yes h
      refine ⟨i, ?_, ?_⟩
      · rw [show resW.length = 65 by decide] at h1; simpa using h1
      · rw [List.drop_take, Nat.add_sub_cancel_left, show (32 :: (s ++ [32])).length = s.length + 2 by simp]
        exact h2
    have htl : (32 :: (s ++ [32])).length ≤ 1073741826 := by simp; omega
    have HNO := Lib.hid hno
    have HYES := Lib.hid hyes
    generalize resB s = r at *
    clear hc h0 h32 hno hyes
    go_enter Tryd.func26, Tryd.ntmps26
    go_wp2_with (go_at_call 24; refine (HI.out _).mono ?_; rintro e w' ⟨rfl, rfl⟩)
    generalize 32 :: (s ++ [32]) = t at *
    go_loopw [4] (fun i w' => ∃ k : Nat, k ≤ 66 ∧ i = .int .i64 k ∧ w = w' ∧ Hid (∀ j, j < k → j + t.length ≤ 65 → ¬ (resW.take (j + t.length)).drop j = t)) (fun i _ => 66 - (intOf i).toNat)
    case atStart => exact ⟨0, by omega, rfl, rfl, fun j hj => by omega⟩
    case round =>
      obtain ⟨k, hk, rfl, rfl, HF⟩ := hrel
      by_cases hle : k + t.length ≤ 65
      · have i0 : (0 : Int) ≤ (k : Int) := by omega
        have i1 : (k : Int) + (t.length : Int) ≤ 65 := by omega
        by_cases heq : (resW.take (k + t.length)).drop k = t
        · have hr := HNO.out k hle heq
          have HR := Lib.hid hr
          have he2 : ((resW.take (k + t.length)).drop k == t) = true := by simpa using heq
          unfold resW at he2
          clear hr heq
          go_wp2
          go_ret
          exact ⟨by rw [HR.out]; rfl, rfl⟩
        · have he2 : ((resW.take (k + t.length)).drop k == t) = false := by simpa using heq
          have HF2 := Lib.hid (show ∀ j, j < k + 1 → j + t.length ≤ 65 → ¬ (resW.take (j + t.length)).drop j = t from fun j hj h => by
            rcases Nat.lt_succ_iff_lt_or_eq.1 hj with h1 | rfl
            · exact HF.out j h1 h
            · exact heq)
          unfold resW at he2
          clear heq HF
          go_wp2
          go_roundw
          case rel => exact ⟨k + 1, by omega, by go_num, by trivial, HF2.out⟩
          case measure => simp [intOf]; omega
      · have hr : r = false := by
          cases r with
          | false => rfl
          | true =>
            obtain ⟨i, h1, h2⟩ := HYES.out rfl
            by_cases hik : i < k
            · exact absurd h2 (HF.out i hik h1)
            · omega
        have HR := Lib.hid hr
        have i1 := no (show ¬ (k : Int) + (t.length : Int) ≤ 65 by omega)
        clear hr hle
        go_wp2
        go_ret
        exact ⟨by rw [HR.out]; rfl, rfl⟩
end Go.Proofs.YtadlaaddpobhbaaDoor.Quo
