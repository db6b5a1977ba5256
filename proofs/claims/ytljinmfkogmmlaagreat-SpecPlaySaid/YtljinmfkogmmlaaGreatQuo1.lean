/-
  Layer 4 (class), on: digits, blanks, what ends a word, reserved words; the reference's All, Ends, Reserved. Conditions: texts of at most 2^30 bytes.
-/
import Derived.Test.YtljinmfkogmmlaaGreatClass2
namespace Go.Proofs.YtljinmfkogmmlaaGreat.Cls
open Go.ChangeShapes Go.WideShapes Go.Deep Go.RowKit
set_option maxRecDepth 100000
def blankB (c : UInt8) : Bool := clsB c == 1
theorem blank_any (c : UInt8) (w : World) : Calls Tryz.prog 88 #[.int .u8 c.toNat] w fun e w' => e = .returned (.bool (blankB c)) ∧ w = w' := by
  have HC := Lib.hid (of_any c)
  unfold blankB
  generalize clsB c = k at *
  go_enter Tryz.func88, Tryz.ntmps88
  go_wp2_with (go_at_call 68; refine (HC.out _).mono ?_; rintro e w' ⟨rfl, rfl⟩)
  go_ret
  exact ⟨rfl, rfl⟩
set_option maxHeartbeats 1000000 in
theorem span_digit (s : List UInt8) (at_ : Nat) (w : World) (hs : s.length ≤ 1073741824) (ha : at_ ≤ s.length) : Calls Tryz.prog 87 #[.string (B s), .int .i64 at_, .func (.func 136) #[] #[]] w fun e w' => e = .returned (.int .i64 (spanN digitB (s.drop at_))) ∧ w = w' := by
  have HF := Lib.hid fun c w => digit_any c w
  have a1 := no (show ¬ (at_ : Int) < 0 by omega)
  by_cases hal : at_ < s.length
  rotate_left
  · have hz : spanN digitB (s.drop at_) = 0 := by rw [List.drop_eq_nil_of_le (by omega)]; rfl
    have a2 : s.length ≤ at_ := by omega
    have a3 : (s.length : Int) ≤ (at_ : Int) := by omega
    rw [hz]
    clear hz hal
    go_enter Tryz.func87, Tryz.ntmps87
    go_wp2
    go_step3
    go_wp2
    rw [Exit.noGoto_ret]
    go_ret
    exact ⟨rfl, rfl⟩
  have a2 := no (show ¬ s.length ≤ at_ by omega)
  go_enter Tryz.func87, Tryz.ntmps87
  go_wp2
  go_step3
  go_wp2
  go_step3
  go_wp2
  go_loopw [7] (fun i w' => ∃ k : Nat, at_ + k ≤ s.length ∧ i = .int .i64 k ∧ w = w' ∧ Hid (spanN digitB (s.drop at_) = k + spanN digitB (s.drop (at_ + k)))) (fun i _ => s.length - (intOf i).toNat)
  case atStart => exact ⟨0, by omega, rfl, rfl, by show _ = _; rw [Nat.zero_add, Nat.add_zero]⟩
  case round =>
    obtain ⟨k, hk, rfl, rfl, HK⟩ := hrel
    obtain ⟨n, hn⟩ : ∃ n : Nat, n = at_ + k := ⟨_, rfl⟩
    have hn2 : (at_ : Int) + (k : Int) = (n : Int) := by omega
    have HN := Lib.hid hn
    rw [← hn] at HK
    by_cases hlt : n < s.length
    · have n0 : (0 : Int) ≤ (n : Int) := by omega
      have n1 : (n : Int) < (s.length : Int) := by omega
      have HFC := Lib.hid (HF.out s[n])
      have HS := Lib.hid (spanN_step digitB hlt)
      clear hn hal a1 a2
      cases hf : digitB s[n] with
      | true =>
        rw [hf] at HFC HS
        clear hf
        go_wp2_with (go_at_call 136; refine (HFC.out _).mono ?_; rintro e w' ⟨rfl, rfl⟩)
        go_roundw
        case rel => exact ⟨k + 1, by have := HN.out; omega, by go_num, by trivial, by
          show _ = _
          have h1 := HK.out
          have h2 := HS.out
          rw [if_pos trivial] at h2
          rw [h1, h2, show at_ + (k + 1) = n + 1 by have := HN.out; omega]
          omega⟩
        case measure => have := HN.out; simp [intOf]; omega
      | false =>
        rw [hf] at HFC HS
        clear hf
        go_wp2_with (go_at_call 136; refine (HFC.out _).mono ?_; rintro e w' ⟨rfl, rfl⟩)
        rw [Exit.noGoto_ret]
        go_ret
        refine ⟨?_, rfl⟩
        have h2 := HS.out
        rw [if_neg (by simp)] at h2
        rw [HK.out, h2]
        rfl
    · have d0 := no hlt
      have hz : spanN digitB (s.drop n) = 0 := by rw [List.drop_eq_nil_of_le (by omega)]; rfl
      rw [hz] at HK
      clear hz hn hal a1 a2 hlt
      go_wp2
      rw [Exit.noGoto_ret]
      go_ret
      refine ⟨?_, rfl⟩
      rw [HK.out]
      rfl
set_option maxHeartbeats 1000000 in
theorem span_blank (s : List UInt8) (at_ : Nat) (w : World) (hs : s.length ≤ 1073741824) (ha : at_ ≤ s.length) : Calls Tryz.prog 87 #[.string (B s), .int .i64 at_, .func (.func 88) #[] #[]] w fun e w' => e = .returned (.int .i64 (spanN blankB (s.drop at_))) ∧ w = w' := by
  have HF := Lib.hid fun c w => blank_any c w
  have a1 := no (show ¬ (at_ : Int) < 0 by omega)
  by_cases hal : at_ < s.length
  rotate_left
  · have hz : spanN blankB (s.drop at_) = 0 := by rw [List.drop_eq_nil_of_le (by omega)]; rfl
    have a2 : s.length ≤ at_ := by omega
    have a3 : (s.length : Int) ≤ (at_ : Int) := by omega
    rw [hz]
    clear hz hal
    go_enter Tryz.func87, Tryz.ntmps87
    go_wp2
    go_step3
    go_wp2
    rw [Exit.noGoto_ret]
    go_ret
    exact ⟨rfl, rfl⟩
  have a2 := no (show ¬ s.length ≤ at_ by omega)
  go_enter Tryz.func87, Tryz.ntmps87
  go_wp2
  go_step3
  go_wp2
  go_step3
  go_wp2
  go_loopw [7] (fun i w' => ∃ k : Nat, at_ + k ≤ s.length ∧ i = .int .i64 k ∧ w = w' ∧ Hid (spanN blankB (s.drop at_) = k + spanN blankB (s.drop (at_ + k)))) (fun i _ => s.length - (intOf i).toNat)
  case atStart => exact ⟨0, by omega, rfl, rfl, by show _ = _; rw [Nat.zero_add, Nat.add_zero]⟩
  case round =>
    obtain ⟨k, hk, rfl, rfl, HK⟩ := hrel
    obtain ⟨n, hn⟩ : ∃ n : Nat, n = at_ + k := ⟨_, rfl⟩
    have hn2 : (at_ : Int) + (k : Int) = (n : Int) := by omega
    have HN := Lib.hid hn
    rw [← hn] at HK
    by_cases hlt : n < s.length
    · have n0 : (0 : Int) ≤ (n : Int) := by omega
      have n1 : (n : Int) < (s.length : Int) := by omega
      have HFC := Lib.hid (HF.out s[n])
      have HS := Lib.hid (spanN_step blankB hlt)
      clear hn hal a1 a2
      cases hf : blankB s[n] with
      | true =>
        rw [hf] at HFC HS
        clear hf
        go_wp2_with (go_at_call 88; refine (HFC.out _).mono ?_; rintro e w' ⟨rfl, rfl⟩)
        go_roundw
        case rel => exact ⟨k + 1, by have := HN.out; omega, by go_num, by trivial, by
          show _ = _
          have h1 := HK.out
          have h2 := HS.out
          rw [if_pos trivial] at h2
          rw [h1, h2, show at_ + (k + 1) = n + 1 by have := HN.out; omega]
          omega⟩
        case measure => have := HN.out; simp [intOf]; omega
      | false =>
        rw [hf] at HFC HS
        clear hf
        go_wp2_with (go_at_call 88; refine (HFC.out _).mono ?_; rintro e w' ⟨rfl, rfl⟩)
        rw [Exit.noGoto_ret]
        go_ret
        refine ⟨?_, rfl⟩
        have h2 := HS.out
        rw [if_neg (by simp)] at h2
        rw [HK.out, h2]
        rfl
    · have d0 := no hlt
      have hz : spanN blankB (s.drop n) = 0 := by rw [List.drop_eq_nil_of_le (by omega)]; rfl
      rw [hz] at HK
      clear hz hn hal a1 a2 hlt
      go_wp2
      rw [Exit.noGoto_ret]
      go_ret
      refine ⟨?_, rfl⟩
      rw [HK.out]
      rfl

theorem digits_any (s : List UInt8) (at_ : Nat) (w : World) (hs : s.length ≤ 1073741824) (ha : at_ ≤ s.length) : Calls Tryz.prog 150 #[.string (B s), .int .i64 at_] w fun e w' => e = .returned (.int .i64 (spanN digitB (s.drop at_))) ∧ w = w' := by
  have H := Lib.hid (span_digit s at_ w hs ha)
  generalize spanN digitB (s.drop at_) = n at *
  go_enter Tryz.func150, Tryz.ntmps150
  go_wp2_with (go_at_call 87; refine (H.out).mono ?_; rintro e w' ⟨rfl, rfl⟩)
  go_ret
  exact ⟨rfl, rfl⟩
theorem blanks_any (s : List UInt8) (at_ : Nat) (w : World) (hs : s.length ≤ 1073741824) (ha : at_ ≤ s.length) : Calls Tryz.prog 66 #[.string (B s), .int .i64 at_] w fun e w' => e = .returned (.int .i64 (spanN blankB (s.drop at_))) ∧ w = w' := by
  have H := Lib.hid (span_blank s at_ w hs ha)
  generalize spanN blankB (s.drop at_) = n at *
  go_enter Tryz.func66, Tryz.ntmps66
  go_wp2_with (go_at_call 87; refine (H.out).mono ?_; rintro e w' ⟨rfl, rfl⟩)
  go_ret
  exact ⟨rfl, rfl⟩
/-- A byte that ends a word. -/
def endsB (c : UInt8) : Bool := clsB c == 1 || clsB c == 2 || clsB c == 3
theorem ends_any (c : UInt8) (w : World) : Calls Tryz.prog 119 #[.int .u8 c.toNat] w fun e w' => e = .returned (.bool (endsB c)) ∧ w = w' := by
  have HC := Lib.hid (of_any c)
  unfold endsB
  generalize clsB c = k at *
  go_enter Tryz.func119, Tryz.ntmps119
  go_wp2_with (go_at_call 68; refine (HC.out _).mono ?_; rintro e w' ⟨rfl, rfl⟩)
  all_goals
    go_ret
    refine ⟨ret_b ?_, rfl⟩
    simp [*]
/-- The reserved words. -/
def resL : List (List UInt8) := [[33], [123], [125], [99, 97, 115, 101], [100, 111], [100, 111, 110, 101], [101, 108, 105, 102], [101, 108, 115, 101], [101, 115, 97, 99], [102, 105], [102, 111, 114], [105, 102], [105, 110], [116, 104, 101, 110], [117, 110, 116, 105, 108], [119, 104, 105, 108, 101]]
def resB (s : List UInt8) : Bool := resL.contains s
end Go.Proofs.YtljinmfkogmmlaaGreat.Cls
