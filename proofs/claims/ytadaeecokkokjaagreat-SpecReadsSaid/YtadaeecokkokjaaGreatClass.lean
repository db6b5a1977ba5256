/-
  The walks of layer 4 (class), in part, and of its reference: the class of a byte, the safe bytes, names. Conditions: texts of at most 2^30 bytes.
-/
import Derived.Test.YtadaeecokkokjaaGreatHist
import Derived.Test.YtadaeecokkokjaaGreatPat4
import Derived.WalkMore
set_option linter.unusedSimpArgs false
set_option linter.unusedVariables false
namespace Go.Proofs.YtadaeecokkokjaaGreat.Cls
open Go.ChangeShapes Go.WideShapes Go.Deep Go.RowKit
set_option maxRecDepth 100000
theorem ret_b {a b : Bool} (h : a = b) : Ending.returned (.bool a) = .returned (.bool b) := by rw [h]
/-- A byte's class. -/
def clsB (c : UInt8) : Int := cls c.toNat
def metaL : List UInt8 := [124, 38, 59, 60, 62, 40, 41]
def quoteL : List UInt8 := [92, 39, 34, 96, 36]
def letterL : List UInt8 := [65, 66, 67, 68, 69, 70, 71, 72, 73, 74, 75, 76, 77, 78, 79, 80, 81, 82, 83, 84, 85, 86, 87, 88, 89, 90, 97, 98, 99, 100, 101, 102, 103, 104, 105, 106, 107, 108, 109, 110, 111, 112, 113, 114, 115, 116, 117, 118, 119, 120, 121, 122, 95]
def digitL : List UInt8 := [48, 49, 50, 51, 52, 53, 54, 55, 56, 57]
def safeL : List UInt8 := [37, 43, 44, 45, 46, 47, 58, 64]
def classR (c : UInt8) : Int :=
  if c = 32 ∨ c = 9 then 1 else if c = 10 then 2 else if metaL.contains c = true then 3 else if quoteL.contains c = true then 4 else if letterL.contains c = true then 5 else if digitL.contains c = true then 6 else 0
theorem classR_eq (c : UInt8) : classR c = clsB c := by
  have h : ∀ n : Fin 256, classR (UInt8.ofNat n.val) = clsB (UInt8.ofNat n.val) := by decide +kernel
  have := h ⟨c.toNat, c.toNat_lt⟩
  simpa using this
/-- A byte that means itself wherever it stands. -/
def safeB (c : UInt8) : Bool := clsB c == 5 || clsB c == 6 || decide ((127 : Int) < (c.toNat : Int)) || safeL.contains c
def safeI (n : Int) : Bool := n == 37 || n == 43 || n == 44 || n == 45 || n == 46 || n == 47 || n == 58 || n == 64 || cls n == 5 || cls n == 6 || decide (128 ≤ n)
theorem safeI_eq (c : UInt8) : safeI c.toNat = safeB c := by
  have h : ∀ n : Fin 256, safeI (UInt8.ofNat n.val).toNat = safeB (UInt8.ofNat n.val) := by decide +kernel
  have := h ⟨c.toNat, c.toNat_lt⟩
  simpa using this
theorem of_any (c : UInt8) (w : World) : Calls Tryz.prog 35 #[.int .u8 c.toNat] w fun e w' => e = .returned (.int .i64 (clsB c)) ∧ w = w' := cls_any c.toNat w
set_option maxHeartbeats 1000000 in
theorem refClass_any (c : UInt8) (w : World) : Calls Tryz.prog 26 #[.int .u8 c.toNat] w fun e w' => e = .returned (.int .i64 (clsB c)) ∧ w = w' := by
  rw [← classR_eq]
  have h1 := fun w => Pat.in_any c metaL w (by decide)
  have h2 := fun w => Pat.in_any c quoteL w (by decide)
  have h3 := fun w => Pat.in_any c letterL w (by decide)
  have h4 := fun w => Pat.in_any c digitL w (by decide)
  by_cases c1 : c = 32
  · have e1 := Pat.is_b (n := 32) rfl c1
    have HR := Lib.hid (show classR c = 1 by unfold classR; rw [if_pos (.inl c1)])
    clear c1 h1 h2 h3 h4
    go_enter Tryz.func26, Tryz.ntmps26
    go_wp2
    go_ret
    exact ⟨by rw [HR.out]; rfl, rfl⟩
  have e1 := Pat.not_b (n := 32) rfl c1
  by_cases c2 : c = 9
  · have e2 := Pat.is_b (n := 9) rfl c2
    have HR := Lib.hid (show classR c = 1 by unfold classR; rw [if_pos (.inr c2)])
    clear c1 c2 h1 h2 h3 h4
    go_enter Tryz.func26, Tryz.ntmps26
    go_wp2
    go_ret
    exact ⟨by rw [HR.out]; rfl, rfl⟩
  have e2 := Pat.not_b (n := 9) rfl c2
  have c12 : ¬ (c = 32 ∨ c = 9) := fun h => h.elim c1 c2
  by_cases c3 : c = 10
  · have e3 := Pat.is_b (n := 10) rfl c3
    have HR := Lib.hid (show classR c = 2 by unfold classR; rw [if_neg c12, if_pos c3])
    clear c1 c2 c3 c12 h1 h2 h3 h4
    go_enter Tryz.func26, Tryz.ntmps26
    go_wp2
    go_ret
    exact ⟨by rw [HR.out]; rfl, rfl⟩
  have e3 := Pat.not_b (n := 10) rfl c3
  have HR0 := Lib.hid (show classR c = if metaL.contains c = true then 3 else if quoteL.contains c = true then 4 else if letterL.contains c = true then 5 else if digitL.contains c = true then 6 else 0 by unfold classR; rw [if_neg c12, if_neg c3])
  clear c1 c2 c3 c12
  generalize metaL.contains c = b1 at *
  generalize quoteL.contains c = b2 at *
  generalize letterL.contains c = b3 at *
  generalize digitL.contains c = b4 at *
  have H1 := Lib.hid h1
  have H2 := Lib.hid h2
  have H3 := Lib.hid h3
  have H4 := Lib.hid h4
  clear h1 h2 h3 h4
  unfold metaL at H1
  unfold quoteL at H2
  unfold letterL at H3
  unfold digitL at H4
  rw [HR0.out]
  go_enter Tryz.func26, Tryz.ntmps26
  go_wp2_with (first
    | (go_at_call 47; (with_reducible refine (H1.out _).mono ?_); rintro e w' ⟨rfl, rfl⟩)
    | (go_at_call 47; (with_reducible refine (H2.out _).mono ?_); rintro e w' ⟨rfl, rfl⟩)
    | (go_at_call 47; (with_reducible refine (H3.out _).mono ?_); rintro e w' ⟨rfl, rfl⟩)
    | (go_at_call 47; (with_reducible refine (H4.out _).mono ?_); rintro e w' ⟨rfl, rfl⟩))
  all_goals
    go_ret
    refine ⟨?_, rfl⟩
    simp_all
theorem safe_any (c : UInt8) (w : World) : Calls Tryz.prog 75 #[.int .u8 c.toNat] w fun e w' => e = .returned (.bool (safeB c)) ∧ w = w' := by
  have HC := Lib.hid fun w => cls_any c.toNat w
  rw [← safeI_eq]
  generalize (c.toNat : Int) = n at *
  go_enter Tryz.func75, Tryz.ntmps75
  go_wp2_with (go_at_call 35; refine (HC.out _).mono ?_; rintro e w' ⟨rfl, rfl⟩)
  all_goals
    go_ret
    refine ⟨ret_b ?_, rfl⟩
    simp [safeI, *]
theorem refSafe_any (c : UInt8) (w : World) : Calls Tryz.prog 53 #[.int .u8 c.toNat] w fun e w' => e = .returned (.bool (safeB c)) ∧ w = w' := by
  have HC := Lib.hid fun w => refClass_any c w
  have hs := fun w => Pat.in_any c safeL w (by decide)
  unfold safeB
  generalize safeL.contains c = b at *
  have HS := Lib.hid hs
  unfold safeL at HS
  clear hs
  generalize clsB c = k at *
  go_enter Tryz.func53, Tryz.ntmps53
  go_wp2_with (first | (go_at_call 26; refine (HC.out _).mono ?_; rintro e w' ⟨rfl, rfl⟩) | (go_at_call 47; refine (HS.out _).mono ?_; rintro e w' ⟨rfl, rfl⟩))
  all_goals
    go_ret
    refine ⟨ret_b ?_, rfl⟩
    first | rfl | (simp [*]; done) | (simp_all; done) | trace_state
/-- How many bytes are of a kind, one behind the other. -/
def spanN (f : UInt8 → Bool) (l : List UInt8) : Nat := (l.takeWhile f).length
theorem spanN_le (f : UInt8 → Bool) : ∀ l, spanN f l ≤ l.length
  | [] => Nat.le_refl _
  | c :: l => by
    have := spanN_le f l
    unfold spanN at *
    rw [List.takeWhile_cons]
    split <;> simp <;> omega
theorem spanN_step (f : UInt8 → Bool) {s : List UInt8} {n : Nat} (h : n < s.length) : spanN f (s.drop n) = if f s[n] = true then 1 + spanN f (s.drop (n + 1)) else 0 := by
  rw [List.drop_eq_getElem_cons h]
  unfold spanN
  rw [List.takeWhile_cons]
  split <;> simp [Nat.add_comm]
def letterB (c : UInt8) : Bool := clsB c == 5
def digitB (c : UInt8) : Bool := clsB c == 6
def nameB (c : UInt8) : Bool := letterB c || digitB c
theorem letter_any (c : UInt8) (w : World) : Calls Tryz.prog 99 #[.int .u8 c.toNat] w fun e w' => e = .returned (.bool (letterB c)) ∧ w = w' := by
  have HC := Lib.hid (of_any c)
  unfold letterB
  generalize clsB c = k at *
  go_enter Tryz.func99, Tryz.ntmps99
  go_wp2_with (go_at_call 35; refine (HC.out _).mono ?_; rintro e w' ⟨rfl, rfl⟩)
  go_ret
  exact ⟨rfl, rfl⟩
theorem digit_any (c : UInt8) (w : World) : Calls Tryz.prog 101 #[.int .u8 c.toNat] w fun e w' => e = .returned (.bool (digitB c)) ∧ w = w' := by
  have HC := Lib.hid (of_any c)
  unfold digitB
  generalize clsB c = k at *
  go_enter Tryz.func101, Tryz.ntmps101
  go_wp2_with (go_at_call 35; refine (HC.out _).mono ?_; rintro e w' ⟨rfl, rfl⟩)
  go_ret
  exact ⟨rfl, rfl⟩
theorem name1_any (c : UInt8) (w : World) : Calls Tryz.prog 100 #[.int .u8 c.toNat] w fun e w' => e = .returned (.bool (nameB c)) ∧ w = w' := by
  have HL := Lib.hid (letter_any c)
  have HD := Lib.hid (digit_any c)
  unfold nameB
  generalize letterB c = a at *
  generalize digitB c = b at *
  cases a
  all_goals
    go_enter Tryz.func100, Tryz.ntmps100
    go_wp2_with (first | (go_at_call 99; refine (HL.out _).mono ?_; rintro e w' ⟨rfl, rfl⟩) | (go_at_call 101; refine (HD.out _).mono ?_; rintro e w' ⟨rfl, rfl⟩))
    go_ret
    exact ⟨rfl, rfl⟩
-- span
set_option maxHeartbeats 1000000 in
theorem span_letter (s : List UInt8) (at_ : Nat) (w : World) (hs : s.length ≤ 1073741824) (ha : at_ ≤ s.length) : Calls Tryz.prog 54 #[.string (B s), .int .i64 at_, .func (.func 99) #[] #[]] w fun e w' => e = .returned (.int .i64 (spanN letterB (s.drop at_))) ∧ w = w' := by
  have HF := Lib.hid fun c w => letter_any c w
  have a1 := no (show ¬ (at_ : Int) < 0 by omega)
  by_cases hal : at_ < s.length
  rotate_left
  · have hz : spanN letterB (s.drop at_) = 0 := by rw [List.drop_eq_nil_of_le (by omega)]; rfl
    have a2 : s.length ≤ at_ := by omega
    have a3 : (s.length : Int) ≤ (at_ : Int) := by omega
    rw [hz]
    clear hz hal
    go_enter Tryz.func54, Tryz.ntmps54
    go_wp2
    go_step3
    go_wp2
    rw [Exit.noGoto_ret]
    go_ret
    exact ⟨rfl, rfl⟩
  have a2 := no (show ¬ s.length ≤ at_ by omega)
  go_enter Tryz.func54, Tryz.ntmps54
  go_wp2
  go_step3
  go_wp2
  go_step3
  go_wp2
  go_loopw [7] (fun i w' => ∃ k : Nat, at_ + k ≤ s.length ∧ i = .int .i64 k ∧ w = w' ∧ Hid (spanN letterB (s.drop at_) = k + spanN letterB (s.drop (at_ + k)))) (fun i _ => s.length - (intOf i).toNat)
  case atStart => exact ⟨0, by omega, rfl, rfl, by show _ = _; rw [Nat.zero_add, Nat.add_zero]⟩
  case round =>
    obtain ⟨k, hk, rfl, rfl, HK⟩ := hrel
    obtain ⟨n, hn⟩ : ∃ n : Nat, n = at_ + k := ⟨_, rfl⟩
    have hn2 : (at_ : Int) + (k : Int) = (n : Int) := by omega
    have HN := Lib.hid hn
    rw [← hn] at HK
    by_cases hlt : n < s.length
    · have n0 : (0 : Int) ≤ (n : Int) := by omega
      have n1 : (n : Int) < (s.length : Int) := by omega
      have HFC := Lib.hid (HF.out s[n])
      have HS := Lib.hid (spanN_step letterB hlt)
      clear hn hal a1 a2
      cases hf : letterB s[n] with
      | true =>
        rw [hf] at HFC HS
        clear hf
        go_wp2_with (go_at_call 99; refine (HFC.out _).mono ?_; rintro e w' ⟨rfl, rfl⟩)
        go_roundw
        case rel => exact ⟨k + 1, by have := HN.out; omega, by go_num, by trivial, by
          show _ = _
          have h1 := HK.out
          have h2 := HS.out
          rw [if_pos trivial] at h2
          rw [h1, h2, show at_ + (k + 1) = n + 1 by have := HN.out; omega]
          omega⟩
        case measure => have := HN.out; simp [intOf]; omega
      | false =>
        rw [hf] at HFC HS
        clear hf
        go_wp2_with (go_at_call 99; refine (HFC.out _).mono ?_; rintro e w' ⟨rfl, rfl⟩)
        rw [Exit.noGoto_ret]
        go_ret
        refine ⟨?_, rfl⟩
        have h2 := HS.out
        rw [if_neg (by simp)] at h2
        rw [HK.out, h2]
        rfl
    · have d0 := no hlt
      have hz : spanN letterB (s.drop n) = 0 := by rw [List.drop_eq_nil_of_le (by omega)]; rfl
      rw [hz] at HK
      clear hz hn hal a1 a2 hlt
      go_wp2
      rw [Exit.noGoto_ret]
      go_ret
      refine ⟨?_, rfl⟩
      rw [HK.out]
      rfl
set_option maxHeartbeats 1000000 in
theorem span_name (s : List UInt8) (at_ : Nat) (w : World) (hs : s.length ≤ 1073741824) (ha : at_ ≤ s.length) : Calls Tryz.prog 54 #[.string (B s), .int .i64 at_, .func (.func 100) #[] #[]] w fun e w' => e = .returned (.int .i64 (spanN nameB (s.drop at_))) ∧ w = w' := by
  have HF := Lib.hid fun c w => name1_any c w
  have a1 := no (show ¬ (at_ : Int) < 0 by omega)
  by_cases hal : at_ < s.length
  rotate_left
  · have hz : spanN nameB (s.drop at_) = 0 := by rw [List.drop_eq_nil_of_le (by omega)]; rfl
    have a2 : s.length ≤ at_ := by omega
    have a3 : (s.length : Int) ≤ (at_ : Int) := by omega
    rw [hz]
    clear hz hal
    go_enter Tryz.func54, Tryz.ntmps54
    go_wp2
    go_step3
    go_wp2
    rw [Exit.noGoto_ret]
    go_ret
    exact ⟨rfl, rfl⟩
  have a2 := no (show ¬ s.length ≤ at_ by omega)
  go_enter Tryz.func54, Tryz.ntmps54
  go_wp2
  go_step3
  go_wp2
  go_step3
  go_wp2
  go_loopw [7] (fun i w' => ∃ k : Nat, at_ + k ≤ s.length ∧ i = .int .i64 k ∧ w = w' ∧ Hid (spanN nameB (s.drop at_) = k + spanN nameB (s.drop (at_ + k)))) (fun i _ => s.length - (intOf i).toNat)
  case atStart => exact ⟨0, by omega, rfl, rfl, by show _ = _; rw [Nat.zero_add, Nat.add_zero]⟩
  case round =>
    obtain ⟨k, hk, rfl, rfl, HK⟩ := hrel
    obtain ⟨n, hn⟩ : ∃ n : Nat, n = at_ + k := ⟨_, rfl⟩
    have hn2 : (at_ : Int) + (k : Int) = (n : Int) := by omega
    have HN := Lib.hid hn
    rw [← hn] at HK
    by_cases hlt : n < s.length
    · have n0 : (0 : Int) ≤ (n : Int) := by omega
      have n1 : (n : Int) < (s.length : Int) := by omega
      have HFC := Lib.hid (HF.out s[n])
      have HS := Lib.hid (spanN_step nameB hlt)
      clear hn hal a1 a2
      cases hf : nameB s[n] with
      | true =>
        rw [hf] at HFC HS
        clear hf
        go_wp2_with (go_at_call 100; refine (HFC.out _).mono ?_; rintro e w' ⟨rfl, rfl⟩)
        go_roundw
        case rel => exact ⟨k + 1, by have := HN.out; omega, by go_num, by trivial, by
          show _ = _
          have h1 := HK.out
          have h2 := HS.out
          rw [if_pos trivial] at h2
          rw [h1, h2, show at_ + (k + 1) = n + 1 by have := HN.out; omega]
          omega⟩
        case measure => have := HN.out; simp [intOf]; omega
      | false =>
        rw [hf] at HFC HS
        clear hf
        go_wp2_with (go_at_call 100; refine (HFC.out _).mono ?_; rintro e w' ⟨rfl, rfl⟩)
        rw [Exit.noGoto_ret]
        go_ret
        refine ⟨?_, rfl⟩
        have h2 := HS.out
        rw [if_neg (by simp)] at h2
        rw [HK.out, h2]
        rfl
    · have d0 := no hlt
      have hz : spanN nameB (s.drop n) = 0 := by rw [List.drop_eq_nil_of_le (by omega)]; rfl
      rw [hz] at HK
      clear hz hn hal a1 a2 hlt
      go_wp2
      rw [Exit.noGoto_ret]
      go_ret
      refine ⟨?_, rfl⟩
      rw [HK.out]
      rfl
-- end span
end Go.Proofs.YtadaeecokkokjaaGreat.Cls
