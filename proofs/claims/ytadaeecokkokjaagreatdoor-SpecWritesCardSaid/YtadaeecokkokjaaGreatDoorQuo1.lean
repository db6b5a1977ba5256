/-
  Layer 4 (class), on: digits, blanks, what ends a word, reserved words; the reference's All, Ends, Reserved. Conditions: texts of at most 2^30 bytes.
-/
import Derived.Test.YtadaeecokkokjaaGreatDoorClass2
set_option linter.unusedSimpArgs false
set_option linter.unusedVariables false
namespace Go.Proofs.YtadaeecokkokjaaGreatDoor.Cls
open Go.ChangeShapes Go.WideShapes Go.Deep Go.RowKit
set_option maxRecDepth 100000
def blankB (c : UInt8) : Bool := clsB c == 1
theorem blank_any (c : UInt8) (w : World) : Calls Tryz.prog 70 #[.int .u8 c.toNat] w fun e w' => e = .returned (.bool (blankB c)) ∧ w = w' := by
  have HC := Lib.hid (of_any c)
  unfold blankB
  generalize clsB c = k at *
  go_enter Tryz.func70, Tryz.ntmps70
  go_wp2_with (go_at_call 54; refine (HC.out _).mono ?_; rintro e w' ⟨rfl, rfl⟩)
  go_ret
  exact ⟨rfl, rfl⟩
set_option maxHeartbeats 1000000 in
theorem span_digit (s : List UInt8) (at_ : Nat) (w : World) (hs : s.length ≤ 1073741824) (ha : at_ ≤ s.length) : Calls Tryz.prog 69 #[.string (B s), .int .i64 at_, .func (.func 108) #[] #[]] w fun e w' => e = .returned (.int .i64 (spanN digitB (s.drop at_))) ∧ w = w' := by
  have HF := Lib.hid fun c w => digit_any c w
  have a1 := no (show ¬ (at_ : Int) < 0 by omega)
  by_cases hal : at_ < s.length
  rotate_left
  · have hz : spanN digitB (s.drop at_) = 0 := by rw [List.drop_eq_nil_of_le (by omega)]; rfl
    have a2 : s.length ≤ at_ := by omega
    have a3 : (s.length : Int) ≤ (at_ : Int) := by omega
    rw [hz]
    clear hz hal
    go_enter Tryz.func69, Tryz.ntmps69
    go_wp2
    go_step3
    go_wp2
    rw [Exit.noGoto_ret]
    go_ret
    exact ⟨rfl, rfl⟩
  have a2 := no (show ¬ s.length ≤ at_ by omega)
  go_enter Tryz.func69, Tryz.ntmps69
  go_wp2
  go_step3
  go_wp2
  go_step3
  go_wp2
  go_loopw [7] (fun i w' => ∃ k : Nat, at_ + k ≤ s.length ∧ i = .int .i64 k ∧ w = w' ∧ Hid (spanN digitB (s.drop at_) = k + spanN digitB (s.drop (at_ + k)))) (fun i _ => s.length - (intOf i).toNat)
  case atStart => exact ⟨0, by omega, rfl, rfl, by show _ = _; rw [Nat.zero_add, Nat.add_zero]⟩
  case round =>
    obtain ⟨k, hk, rfl, rfl, HK⟩ := hrel
    obtain ⟨n, hn⟩ : ∃ n : Nat, n = at_ + k := ⟨_, rfl⟩
    have hn2 : (at_ : Int) + (k : Int) = (n : Int) := by omega
    have HN := Lib.hid hn
    rw [← hn] at HK
    by_cases hlt : n < s.length
    · have n0 : (0 : Int) ≤ (n : Int) := by omega
      have n1 : (n : Int) < (s.length : Int) := by omega
      have HFC := Lib.hid (HF.out s[n])
      have HS := Lib.hid (spanN_step digitB hlt)
      clear hn hal a1 a2
      cases hf : digitB s[n] with
      | true =>
        rw [hf] at HFC HS
        clear hf
        go_wp2_with (go_at_call 108; refine (HFC.out _).mono ?_; rintro e w' ⟨rfl, rfl⟩)
        go_roundw
        case rel => exact ⟨k + 1, by have := HN.out; omega, by go_num, by trivial, by
          show _ = _
          have h1 := HK.out
          have h2 := HS.out
          rw [if_pos trivial] at h2
          rw [h1, h2, show at_ + (k + 1) = n + 1 by have := HN.out; omega]
          omega⟩
        case measure => have := HN.out; simp [intOf]; omega
      | false =>
        rw [hf] at HFC HS
        clear hf
        go_wp2_with (go_at_call 108; refine (HFC.out _).mono ?_; rintro e w' ⟨rfl, rfl⟩)
        rw [Exit.noGoto_ret]
        go_ret
        refine ⟨?_, rfl⟩
        have h2 := HS.out
        rw [if_neg (by simp)] at h2
        rw [HK.out, h2]
        rfl
    · have d0 := no hlt
      have hz : spanN digitB (s.drop n) = 0 := by rw [List.drop_eq_nil_of_le (by omega)]; rfl
      rw [hz] at HK
      clear hz hn hal a1 a2 hlt
      go_wp2
      rw [Exit.noGoto_ret]
      go_ret
      refine ⟨?_, rfl⟩
      rw [HK.out]
      rfl
set_option maxHeartbeats 1000000 in
theorem span_blank (s : List UInt8) (at_ : Nat) (w : World) (hs : s.length ≤ 1073741824) (ha : at_ ≤ s.length) : Calls Tryz.prog 69 #[.string (B s), .int .i64 at_, .func (.func 70) #[] #[]] w fun e w' => e = .returned (.int .i64 (spanN blankB (s.drop at_))) ∧ w = w' := by
  have HF := Lib.hid fun c w => blank_any c w
  have a1 := no (show ¬ (at_ : Int) < 0 by omega)
  by_cases hal : at_ < s.length
  rotate_left
  · have hz : spanN blankB (s.drop at_) = 0 := by rw [List.drop_eq_nil_of_le (by omega)]; rfl
    have a2 : s.length ≤ at_ := by omega
    have a3 : (s.length : Int) ≤ (at_ : Int) := by omega
    rw [hz]
    clear hz hal
    go_enter Tryz.func69, Tryz.ntmps69
    go_wp2
    go_step3
    go_wp2
    rw [Exit.noGoto_ret]
    go_ret
    exact ⟨rfl, rfl⟩
  have a2 := no (show ¬ s.length ≤ at_ by omega)
  go_enter Tryz.func69, Tryz.ntmps69
  go_wp2
  go_step3
  go_wp2
  go_step3
  go_wp2
  go_loopw [7] (fun i w' => ∃ k : Nat, at_ + k ≤ s.length ∧ i = .int .i64 k ∧ w = w' ∧ Hid (spanN blankB (s.drop at_) = k + spanN blankB (s.drop (at_ + k)))) (fun i _ => s.length - (intOf i).toNat)
  case atStart => exact ⟨0, by omega, rfl, rfl, by show _ = _; rw [Nat.zero_add, Nat.add_zero]⟩
  case round =>
    obtain ⟨k, hk, rfl, rfl, HK⟩ := hrel
    obtain ⟨n, hn⟩ : ∃ n : Nat, n = at_ + k := ⟨_, rfl⟩
    have hn2 : (at_ : Int) + (k : Int) = (n : Int) := by omega
    have HN := Lib.hid hn
    rw [← hn] at HK
    by_cases hlt : n < s.length
    · have n0 : (0 : Int) ≤ (n : Int) := by omega
      have n1 : (n : Int) < (s.length : Int) := by omega
      have HFC := Lib.hid (HF.out s[n])
      have HS := Lib.hid (spanN_step blankB hlt)
      clear hn hal a1 a2
      cases hf : blankB s[n] with
      | true =>
        rw [hf] at HFC HS
        clear hf
        go_wp2_with (go_at_call 70; refine (HFC.out _).mono ?_; rintro e w' ⟨rfl, rfl⟩)
        go_roundw
        case rel => exact ⟨k + 1, by have := HN.out; omega, by go_num, by trivial, by
          show _ = _
          have h1 := HK.out
          have h2 := HS.out
          rw [if_pos trivial] at h2
          rw [h1, h2, show at_ + (k + 1) = n + 1 by have := HN.out; omega]
          omega⟩
        case measure => have := HN.out; simp [intOf]; omega
      | false =>
        rw [hf] at HFC HS
        clear hf
        go_wp2_with (go_at_call 70; refine (HFC.out _).mono ?_; rintro e w' ⟨rfl, rfl⟩)
        rw [Exit.noGoto_ret]
        go_ret
        refine ⟨?_, rfl⟩
        have h2 := HS.out
        rw [if_neg (by simp)] at h2
        rw [HK.out, h2]
        rfl
    · have d0 := no hlt
      have hz : spanN blankB (s.drop n) = 0 := by rw [List.drop_eq_nil_of_le (by omega)]; rfl
      rw [hz] at HK
      clear hz hn hal a1 a2 hlt
      go_wp2
      rw [Exit.noGoto_ret]
      go_ret
      refine ⟨?_, rfl⟩
      rw [HK.out]
      rfl

theorem digits_any (s : List UInt8) (at_ : Nat) (w : World) (hs : s.length ≤ 1073741824) (ha : at_ ≤ s.length) : Calls Tryz.prog 90 #[.string (B s), .int .i64 at_] w fun e w' => e = .returned (.int .i64 (spanN digitB (s.drop at_))) ∧ w = w' := by
  have H := Lib.hid (span_digit s at_ w hs ha)
  generalize spanN digitB (s.drop at_) = n at *
  go_enter Tryz.func90, Tryz.ntmps90
  go_wp2_with (go_at_call 69; refine (H.out).mono ?_; rintro e w' ⟨rfl, rfl⟩)
  go_ret
  exact ⟨rfl, rfl⟩
theorem blanks_any (s : List UInt8) (at_ : Nat) (w : World) (hs : s.length ≤ 1073741824) (ha : at_ ≤ s.length) : Calls Tryz.prog 52 #[.string (B s), .int .i64 at_] w fun e w' => e = .returned (.int .i64 (spanN blankB (s.drop at_))) ∧ w = w' := by
  have H := Lib.hid (span_blank s at_ w hs ha)
  generalize spanN blankB (s.drop at_) = n at *
  go_enter Tryz.func52, Tryz.ntmps52
  go_wp2_with (go_at_call 69; refine (H.out).mono ?_; rintro e w' ⟨rfl, rfl⟩)
  go_ret
  exact ⟨rfl, rfl⟩
/-- A byte that ends a word. -/
def endsB (c : UInt8) : Bool := clsB c == 1 || clsB c == 2 || clsB c == 3
theorem ends_any (c : UInt8) (w : World) : Calls Tryz.prog 92 #[.int .u8 c.toNat] w fun e w' => e = .returned (.bool (endsB c)) ∧ w = w' := by
  have HC := Lib.hid (of_any c)
  unfold endsB
  generalize clsB c = k at *
  go_enter Tryz.func92, Tryz.ntmps92
  go_wp2_with (go_at_call 54; refine (HC.out _).mono ?_; rintro e w' ⟨rfl, rfl⟩)
  all_goals
    go_ret
    refine ⟨ret_b ?_, rfl⟩
    simp [*]
/-- The reserved words. -/
def resL : List (List UInt8) := [[33], [123], [125], [99, 97, 115, 101], [100, 111], [100, 111, 110, 101], [101, 108, 105, 102], [101, 108, 115, 101], [101, 115, 97, 99], [102, 105], [102, 111, 114], [105, 102], [105, 110], [116, 104, 101, 110], [117, 110, 116, 105, 108], [119, 104, 105, 108, 101]]
def resB (s : List UInt8) : Bool := resL.contains s
set_option maxHeartbeats 3200000 in
theorem reserved_any (s : List UInt8) (w : World) : Calls Tryz.prog 89 #[.string (B s)] w fun e w' => e = .returned (.bool (resB s)) ∧ w = w' := by
  by_cases h0 : s = [33]
  · subst h0
    rw [show resB [33] = true by decide +kernel]
    go_enter Tryz.func89, Tryz.ntmps89
    go_wp2
    go_ret
    exact ⟨rfl, rfl⟩
  by_cases h1 : s = [123]
  · subst h1
    rw [show resB [123] = true by decide +kernel]
    clear h0
    go_enter Tryz.func89, Tryz.ntmps89
    go_wp2
    go_ret
    exact ⟨rfl, rfl⟩
  by_cases h2 : s = [125]
  · subst h2
    rw [show resB [125] = true by decide +kernel]
    clear h0 h1
    go_enter Tryz.func89, Tryz.ntmps89
    go_wp2
    go_ret
    exact ⟨rfl, rfl⟩
  by_cases h3 : s = [99, 97, 115, 101]
  · subst h3
    rw [show resB [99, 97, 115, 101] = true by decide +kernel]
    clear h0 h1 h2
    go_enter Tryz.func89, Tryz.ntmps89
    go_wp2
    go_ret
    exact ⟨rfl, rfl⟩
  by_cases h4 : s = [100, 111]
  · subst h4
    rw [show resB [100, 111] = true by decide +kernel]
    clear h0 h1 h2 h3
    go_enter Tryz.func89, Tryz.ntmps89
    go_wp2
    go_ret
    exact ⟨rfl, rfl⟩
  by_cases h5 : s = [100, 111, 110, 101]
  · subst h5
    rw [show resB [100, 111, 110, 101] = true by decide +kernel]
    clear h0 h1 h2 h3 h4
    go_enter Tryz.func89, Tryz.ntmps89
    go_wp2
    go_ret
    exact ⟨rfl, rfl⟩
  by_cases h6 : s = [101, 108, 105, 102]
  · subst h6
    rw [show resB [101, 108, 105, 102] = true by decide +kernel]
    clear h0 h1 h2 h3 h4 h5
    go_enter Tryz.func89, Tryz.ntmps89
    go_wp2
    go_ret
    exact ⟨rfl, rfl⟩
  by_cases h7 : s = [101, 108, 115, 101]
  · subst h7
    rw [show resB [101, 108, 115, 101] = true by decide +kernel]
    clear h0 h1 h2 h3 h4 h5 h6
    go_enter Tryz.func89, Tryz.ntmps89
    go_wp2
    go_ret
    exact ⟨rfl, rfl⟩
  by_cases h8 : s = [101, 115, 97, 99]
  · subst h8
    rw [show resB [101, 115, 97, 99] = true by decide +kernel]
    clear h0 h1 h2 h3 h4 h5 h6 h7
    go_enter Tryz.func89, Tryz.ntmps89
    go_wp2
    go_ret
    exact ⟨rfl, rfl⟩
  by_cases h9 : s = [102, 105]
  · subst h9
    rw [show resB [102, 105] = true by decide +kernel]
    clear h0 h1 h2 h3 h4 h5 h6 h7 h8
    go_enter Tryz.func89, Tryz.ntmps89
    go_wp2
    go_ret
    exact ⟨rfl, rfl⟩
  by_cases h10 : s = [102, 111, 114]
  · subst h10
    rw [show resB [102, 111, 114] = true by decide +kernel]
    clear h0 h1 h2 h3 h4 h5 h6 h7 h8 h9
    go_enter Tryz.func89, Tryz.ntmps89
    go_wp2
    go_ret
    exact ⟨rfl, rfl⟩
  by_cases h11 : s = [105, 102]
  · subst h11
    rw [show resB [105, 102] = true by decide +kernel]
    clear h0 h1 h2 h3 h4 h5 h6 h7 h8 h9 h10
    go_enter Tryz.func89, Tryz.ntmps89
    go_wp2
    go_ret
    exact ⟨rfl, rfl⟩
  by_cases h12 : s = [105, 110]
  · subst h12
    rw [show resB [105, 110] = true by decide +kernel]
    clear h0 h1 h2 h3 h4 h5 h6 h7 h8 h9 h10 h11
    go_enter Tryz.func89, Tryz.ntmps89
    go_wp2
    go_ret
    exact ⟨rfl, rfl⟩
  by_cases h13 : s = [116, 104, 101, 110]
  · subst h13
    rw [show resB [116, 104, 101, 110] = true by decide +kernel]
    clear h0 h1 h2 h3 h4 h5 h6 h7 h8 h9 h10 h11 h12
    go_enter Tryz.func89, Tryz.ntmps89
    go_wp2
    go_ret
    exact ⟨rfl, rfl⟩
  by_cases h14 : s = [117, 110, 116, 105, 108]
  · subst h14
    rw [show resB [117, 110, 116, 105, 108] = true by decide +kernel]
    clear h0 h1 h2 h3 h4 h5 h6 h7 h8 h9 h10 h11 h12 h13
    go_enter Tryz.func89, Tryz.ntmps89
    go_wp2
    go_ret
    exact ⟨rfl, rfl⟩
  by_cases h15 : s = [119, 104, 105, 108, 101]
  · subst h15
    rw [show resB [119, 104, 105, 108, 101] = true by decide +kernel]
    clear h0 h1 h2 h3 h4 h5 h6 h7 h8 h9 h10 h11 h12 h13 h14
    go_enter Tryz.func89, Tryz.ntmps89
    go_wp2
    go_ret
    exact ⟨rfl, rfl⟩
  have e0 : (s == [33]) = false := by rw [beq_eq_false_iff_ne]; exact h0
  have e1 : (s == [123]) = false := by rw [beq_eq_false_iff_ne]; exact h1
  have e2 : (s == [125]) = false := by rw [beq_eq_false_iff_ne]; exact h2
  have e3 : (s == [99, 97, 115, 101]) = false := by rw [beq_eq_false_iff_ne]; exact h3
  have e4 : (s == [100, 111]) = false := by rw [beq_eq_false_iff_ne]; exact h4
  have e5 : (s == [100, 111, 110, 101]) = false := by rw [beq_eq_false_iff_ne]; exact h5
  have e6 : (s == [101, 108, 105, 102]) = false := by rw [beq_eq_false_iff_ne]; exact h6
  have e7 : (s == [101, 108, 115, 101]) = false := by rw [beq_eq_false_iff_ne]; exact h7
  have e8 : (s == [101, 115, 97, 99]) = false := by rw [beq_eq_false_iff_ne]; exact h8
  have e9 : (s == [102, 105]) = false := by rw [beq_eq_false_iff_ne]; exact h9
  have e10 : (s == [102, 111, 114]) = false := by rw [beq_eq_false_iff_ne]; exact h10
  have e11 : (s == [105, 102]) = false := by rw [beq_eq_false_iff_ne]; exact h11
  have e12 : (s == [105, 110]) = false := by rw [beq_eq_false_iff_ne]; exact h12
  have e13 : (s == [116, 104, 101, 110]) = false := by rw [beq_eq_false_iff_ne]; exact h13
  have e14 : (s == [117, 110, 116, 105, 108]) = false := by rw [beq_eq_false_iff_ne]; exact h14
  have e15 : (s == [119, 104, 105, 108, 101]) = false := by rw [beq_eq_false_iff_ne]; exact h15
  have hr : resB s = false := by
    unfold resB resL
    simp only [List.contains_eq_any_beq, List.any_cons, List.any_nil, e0, e1, e2, e3, e4, e5, e6, e7, e8, e9, e10, e11, e12, e13, e14, e15, Bool.or_false]
  rw [hr]
  clear hr h0 h1 h2 h3 h4 h5 h6 h7 h8 h9 h10 h11 h12 h13 h14 h15
  go_enter Tryz.func89, Tryz.ntmps89
  go_wp2
  go_ret
  exact ⟨rfl, rfl⟩
def resW : List UInt8 := [32, 33, 32, 123, 32, 125, 32, 99, 97, 115, 101, 32, 100, 111, 32, 100, 111, 110, 101, 32, 101, 108, 105, 102, 32, 101, 108, 115, 101, 32, 101, 115, 97, 99, 32, 102, 105, 32, 102, 111, 114, 32, 105, 102, 32, 105, 110, 32, 116, 104, 101, 110, 32, 117, 110, 116, 105, 108, 32, 119, 104, 105, 108, 101, 32]
theorem res_yes {s : List UInt8} (h : resB s = true) : ∃ i, i + (s.length + 2) ≤ resW.length ∧ (resW.drop i).take (s.length + 2) = 32 :: (s ++ [32]) := by
  have hall : ∀ x ∈ resL, ∃ i ∈ List.range 80, i + (x.length + 2) ≤ resW.length ∧ (resW.drop i).take (x.length + 2) = 32 :: (x ++ [32]) := by decide +kernel
  obtain ⟨i, _, hi⟩ := hall s (List.contains_iff_mem.1 h)
  exact ⟨i, hi⟩
theorem res_no {s : List UInt8} (h0 : s ≠ []) (h1 : 32 ∉ s) {i : Nat} (hi : i + (s.length + 2) ≤ resW.length) (he : (resW.drop i).take (s.length + 2) = 32 :: (s ++ [32])) : resB s = true := by
  have hall : ∀ i ∈ List.range 80, ∀ n ∈ List.range 80, ∀ t, t = ((resW.drop i).take (n + 2)).tail.dropLast → (resW.drop i).take (n + 2) = 32 :: (t ++ [32]) → t ≠ [] → 32 ∉ t → resL.contains t = true := by
    have h : ∀ i ∈ List.range 80, ∀ n ∈ List.range 80, (resW.drop i).take (n + 2) = 32 :: (((resW.drop i).take (n + 2)).tail.dropLast ++ [32]) → ((resW.drop i).take (n + 2)).tail.dropLast ≠ [] → 32 ∉ ((resW.drop i).take (n + 2)).tail.dropLast → resL.contains ((resW.drop i).take (n + 2)).tail.dropLast = true := by decide +kernel
    intro i hi n hn t ht
    subst ht
    exact h i hi n hn
  have hl : resW.length ≤ 79 := by decide
  refine hall i (List.mem_range.2 (by omega)) s.length (List.mem_range.2 (by omega)) s ?_ he h0 h1
  rw [he]
  simp
end Go.Proofs.YtadaeecokkokjaaGreatDoor.Cls
