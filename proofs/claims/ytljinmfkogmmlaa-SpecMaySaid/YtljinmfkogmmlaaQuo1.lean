/-
  Layer 4 (class), on: digits, blanks, what ends a word, reserved words; the reference's All, Ends, Reserved. Conditions: texts of at most 2^30 bytes.
-/
import Derived.Test.YtljinmfkogmmlaaClass2
namespace Go.Proofs.Ytljinmfkogmmlaa.Cls
open Go.ChangeShapes Go.WideShapes Go.Deep Go.RowKit
set_option maxRecDepth 100000
def blankB (c : UInt8) : Bool := clsB c == 1
theorem blank_any (c : UInt8) (w : World) : Calls Try.prog 49 #[.int .u8 c.toNat] w fun e w' => e = .returned (.bool (blankB c)) ∧ w = w' := by
  have HC := Lib.hid (of_any c)
  unfold blankB
  generalize clsB c = k at *
  go_enter Try.func49, Try.ntmps49
  go_wp2_with (go_at_call 36; refine (HC.out _).mono ?_; rintro e w' ⟨rfl, rfl⟩)
  go_ret
  exact ⟨rfl, rfl⟩
set_option maxHeartbeats 1000000 in
theorem span_digit (s : List UInt8) (at_ : Nat) (w : World) (hs : s.length ≤ 1073741824) (ha : at_ ≤ s.length) : Calls Try.prog 45 #[.string (B s), .int .i64 at_, .func (.func 48) #[] #[]] w fun e w' => e = .returned (.int .i64 (spanN digitB (s.drop at_))) ∧ w = w' := by
  have HF := Lib.hid fun c w => digit_any c w
  have a1 := no (show ¬ (at_ : Int) < 0 by omega)
  by_cases hal : at_ < s.length
  rotate_left
  · have hz : spanN digitB (s.drop at_) = 0 := by rw [List.drop_eq_nil_of_le (by omega)]; rfl
    have a2 : s.length ≤ at_ := by omega
    have a3 : (s.length : Int) ≤ (at_ : Int) := by omega
    rw [hz]
    clear hz hal
    go_enter Try.func45, Try.ntmps45
    go_wp2
    go_step3
    go_wp2
    rw [Exit.noGoto_ret]
    go_ret
    exact ⟨rfl, rfl⟩
  have a2 := no (show ¬ s.length ≤ at_ by omega)
  go_enter Try.func45, Try.ntmps45
  go_wp2
  go_step3
  go_wp2
  go_step3
  go_wp2
  go_loopw [7] (fun i w' => ∃ k : Nat, at_ + k ≤ s.length ∧ i = .int .i64 k ∧ w = w' ∧ Hid (spanN digitB (s.drop at_) = k + spanN digitB (s.drop (at_ + k)))) (fun i _ => s.length - (intOf i).toNat)
  case atStart => exact ⟨0, by omega, rfl, rfl, by show _ = _; rw [Nat.zero_add, Nat.add_zero]⟩
  case round =>
    obtain ⟨k, hk, rfl, rfl, HK⟩ := hrel
    obtain ⟨n, hn⟩ : ∃ n : Nat, n = at_ + k := ⟨_, rfl⟩
    have hn2 : (at_ : Int) + (k : Int) = (n : Int) := by omega
    have HN := Lib.hid hn
    rw [← hn] at HK
    by_cases hlt : n < s.length
    · have n0 : (0 : Int) ≤ (n : Int) := by omega
      have n1 : (n : Int) < (s.length : Int) := by omega
      have HFC := Lib.hid (HF.out s[n])
      have HS := Lib.hid (spanN_step digitB hlt)
      clear hn hal a1 a2
      cases hf : digitB s[n] with
      | true =>
        rw [hf] at HFC HS
        clear hf
        go_wp2_with (go_at_call 48; refine (HFC.out _).mono ?_; rintro e w' ⟨rfl, rfl⟩)
        go_roundw
        case rel => exact ⟨k + 1, by have := HN.out; omega, by go_num, by trivial, by
          show _ = _
          have h1 := HK.out
          have h2 := HS.out
          rw [if_pos trivial] at h2
          rw [h1, h2, show at_ + (k + 1) = n + 1 by have := HN.out; omega]
          omega⟩
        case measure => have := HN.out; simp [intOf]; omega
      | false =>
        rw [hf] at HFC HS
        clear hf
        go_wp2_with (go_at_call 48; refine (HFC.out _).mono ?_; rintro e w' ⟨rfl, rfl⟩)
        rw [Exit.noGoto_ret]
        go_ret
        refine ⟨?_, rfl⟩
        have h2 := HS.out
        rw [if_neg (by simp)] at h2
        rw [HK.out, h2]
        rfl
    · have d0 := no hlt
      have hz : spanN digitB (s.drop n) = 0 := by rw [List.drop_eq_nil_of_le (by omega)]; rfl
      rw [hz] at HK
      clear hz hn hal a1 a2 hlt
      go_wp2
      rw [Exit.noGoto_ret]
      go_ret
      refine ⟨?_, rfl⟩
      rw [HK.out]
      rfl
set_option maxHeartbeats 1000000 in
theorem span_blank (s : List UInt8) (at_ : Nat) (w : World) (hs : s.length ≤ 1073741824) (ha : at_ ≤ s.length) : Calls Try.prog 45 #[.string (B s), .int .i64 at_, .func (.func 49) #[] #[]] w fun e w' => e = .returned (.int .i64 (spanN blankB (s.drop at_))) ∧ w = w' := by
  have HF := Lib.hid fun c w => blank_any c w
  have a1 := no (show ¬ (at_ : Int) < 0 by omega)
  by_cases hal : at_ < s.length
  rotate_left
  · have hz : spanN blankB (s.drop at_) = 0 := by rw [List.drop_eq_nil_of_le (by omega)]; rfl
    have a2 : s.length ≤ at_ := by omega
    have a3 : (s.length : Int) ≤ (at_ : Int) := by omega
    rw [hz]
    clear hz hal
    go_enter Try.func45, Try.ntmps45
    go_wp2
    go_step3
    go_wp2
    rw [Exit.noGoto_ret]
    go_ret
    exact ⟨rfl, rfl⟩
  have a2 := no (show ¬ s.length ≤ at_ by omega)
  go_enter Try.func45, Try.ntmps45
  go_wp2
  go_step3
  go_wp2
  go_step3
  go_wp2
  go_loopw [7] (fun i w' => ∃ k : Nat, at_ + k ≤ s.length ∧ i = .int .i64 k ∧ w = w' ∧ Hid (spanN blankB (s.drop at_) = k + spanN blankB (s.drop (at_ + k)))) (fun i _ => s.length - (intOf i).toNat)
  case atStart => exact ⟨0, by omega, rfl, rfl, by show _ = _; rw [Nat.zero_add, Nat.add_zero]⟩
  case round =>
    obtain ⟨k, hk, rfl, rfl, HK⟩ := hrel
    obtain ⟨n, hn⟩ : ∃ n : Nat, n = at_ + k := ⟨_, rfl⟩
    have hn2 : (at_ : Int) + (k : Int) = (n : Int) := by omega
    have HN := Lib.hid hn
    rw [← hn] at HK
    by_cases hlt : n < s.length
    · have n0 : (0 : Int) ≤ (n : Int) := by omega
      have n1 : (n : Int) < (s.length : Int) := by omega
      have HFC := Lib.hid (HF.out s[n])
      have HS := Lib.hid (spanN_step blankB hlt)
      clear hn hal a1 a2
      cases hf : blankB s[n] with
      | true =>
        rw [hf] at HFC HS
        clear hf
        go_wp2_with (go_at_call 49; refine (HFC.out _).mono ?_; rintro e w' ⟨rfl, rfl⟩)
        go_roundw
        case rel => exact ⟨k + 1, by have := HN.out; omega, by go_num, by trivial, by
          show _ = _
          have h1 := HK.out
          have h2 := HS.out
          rw [if_pos trivial] at h2
          rw [h1, h2, show at_ + (k + 1) = n + 1 by have := HN.out; omega]
          omega⟩
        case measure => have := HN.out; simp [intOf]; omega
      | false =>
        rw [hf] at HFC HS
        clear hf
        go_wp2_with (go_at_call 49; refine (HFC.out _).mono ?_; rintro e w' ⟨rfl, rfl⟩)
        rw [Exit.noGoto_ret]
        go_ret
        refine ⟨?_, rfl⟩
        have h2 := HS.out
        rw [if_neg (by simp)] at h2
        rw [HK.out, h2]
        rfl
    · have d0 := no hlt
      have hz : spanN blankB (s.drop n) = 0 := by rw [List.drop_eq_nil_of_le (by omega)]; rfl
      rw [hz] at HK
      clear hz hn hal a1 a2 hlt
      go_wp2
      rw [Exit.noGoto_ret]
      go_ret
      refine ⟨?_, rfl⟩
      rw [HK.out]
      rfl

theorem digits_any (s : List UInt8) (at_ : Nat) (w : World) (hs : s.length ≤ 1073741824) (ha : at_ ≤ s.length) : Calls Try.prog 90 #[.string (B s), .int .i64 at_] w fun e w' => e = .returned (.int .i64 (spanN digitB (s.drop at_))) ∧ w = w' := by
  have H := Lib.hid (span_digit s at_ w hs ha)
  generalize spanN digitB (s.drop at_) = n at *
  go_enter Try.func90, Try.ntmps90
  go_wp2_with (go_at_call 45; refine (H.out).mono ?_; rintro e w' ⟨rfl, rfl⟩)
  go_ret
  exact ⟨rfl, rfl⟩
theorem blanks_any (s : List UInt8) (at_ : Nat) (w : World) (hs : s.length ≤ 1073741824) (ha : at_ ≤ s.length) : Calls Try.prog 34 #[.string (B s), .int .i64 at_] w fun e w' => e = .returned (.int .i64 (spanN blankB (s.drop at_))) ∧ w = w' := by
  have H := Lib.hid (span_blank s at_ w hs ha)
  generalize spanN blankB (s.drop at_) = n at *
  go_enter Try.func34, Try.ntmps34
  go_wp2_with (go_at_call 45; refine (H.out).mono ?_; rintro e w' ⟨rfl, rfl⟩)
  go_ret
  exact ⟨rfl, rfl⟩
/-- A byte that ends a word. -/
def endsB (c : UInt8) : Bool := clsB c == 1 || clsB c == 2 || clsB c == 3
theorem ends_any (c : UInt8) (w : World) : Calls Try.prog 68 #[.int .u8 c.toNat] w fun e w' => e = .returned (.bool (endsB c)) ∧ w = w' := by
  have HC := Lib.hid (of_any c)
  unfold endsB
  generalize clsB c = k at *
  go_enter Try.func68, Try.ntmps68
  go_wp2_with (go_at_call 36; refine (HC.out _).mono ?_; rintro e w' ⟨rfl, rfl⟩)
  all_goals
    go_ret
    refine ⟨ret_b ?_, rfl⟩
    simp [*]
/-- The reserved words. -/
def resL : List (List UInt8) := [[33], [123], [125], [99, 97, 115, 101], [100, 111], [100, 111, 110, 101], [101, 108, 105, 102], [101, 108, 115, 101], [101, 115, 97, 99], [102, 105], [102, 111, 114], [105, 102], [105, 110], [116, 104, 101, 110], [117, 110, 116, 105, 108], [119, 104, 105, 108, 101]]
def resB (s : List UInt8) : Bool := resL.contains s
def resW : List UInt8 := [32, 33, 32, 123, 32, 125, 32, 99, 97, 115, 101, 32, 100, 111, 32, 100, 111, 110, 101, 32, 101, 108, 105, 102, 32, 101, 108, 115, 101, 32, 101, 115, 97, 99, 32, 102, 105, 32, 102, 111, 114, 32, 105, 102, 32, 105, 110, 32, 116, 104, 101, 110, 32, 117, 110, 116, 105, 108, 32, 119, 104, 105, 108, 101, 32]
theorem res_yes {s : List UInt8} (h : resB s = true) : ∃ i, i + (s.length + 2) ≤ resW.length ∧ (resW.drop i).take (s.length + 2) = 32 :: (s ++ [32]) := by
  have hall : ∀ x ∈ resL, ∃ i ∈ List.range 80, i + (x.length + 2) ≤ resW.length ∧ (resW.drop i).take (x.length + 2) = 32 :: (x ++ [32]) := by decide +kernel
  obtain ⟨i, _, hi⟩ := hall s (List.contains_iff_mem.1 h)
  exact ⟨i, hi⟩
theorem res_no {s : List UInt8} (h0 : s ≠ []) (h1 : 32 ∉ s) {i : Nat} (hi : i + (s.length + 2) ≤ resW.length) (he : (resW.drop i).take (s.length + 2) = 32 :: (s ++ [32])) : resB s = true := by
  have hall : ∀ i ∈ List.range 80, ∀ n ∈ List.range 80, ∀ t, t = ((resW.drop i).take (n + 2)).tail.dropLast → (resW.drop i).take (n + 2) = 32 :: (t ++ [32]) → t ≠ [] → 32 ∉ t → resL.contains t = true := by
    have h : ∀ i ∈ List.range 80, ∀ n ∈ List.range 80, (resW.drop i).take (n + 2) = 32 :: (((resW.drop i).take (n + 2)).tail.dropLast ++ [32]) → ((resW.drop i).take (n + 2)).tail.dropLast ≠ [] → 32 ∉ ((resW.drop i).take (n + 2)).tail.dropLast → resL.contains ((resW.drop i).take (n + 2)).tail.dropLast = true := by decide +kernel
    intro i hi n hn t ht
    subst ht
    exact h i hi n hn
  have hl : resW.length ≤ 79 := by decide
  refine hall i (List.mem_range.2 (by omega)) s.length (List.mem_range.2 (by omega)) s ?_ he h0 h1
  rw [he]
  simp
end Go.Proofs.Ytljinmfkogmmlaa.Cls
