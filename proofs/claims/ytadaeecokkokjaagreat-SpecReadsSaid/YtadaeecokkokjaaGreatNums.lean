/-
  The cells of rows of numbers and of bytes. Conditions: none.
-/
import Derived.Test.YtadaeecokkokjaaGreatClass2
import Derived.Test.YtadaeecokkokjaaGreatProg
import Derived.Test.YtadaeecokkokjaaGreatOwn
set_option linter.unusedSimpArgs false
set_option linter.unusedVariables false
namespace Go.Proofs.YtadaeecokkokjaaGreat.Cls
open Go.ChangeShapes Go.WideShapes Go.Deep Go.RowKit
set_option maxRecDepth 100000
def blankB (c : UInt8) : Bool := clsB c == 1
theorem blank_any (c : UInt8) (w : World) : Calls Tryz.prog 55 #[.int .u8 c.toNat] w fun e w' => e = .returned (.bool (blankB c)) ∧ w = w' := by
  have HC := Lib.hid (of_any c)
  unfold blankB
  generalize clsB c = k at *
  go_enter Tryz.func55, Tryz.ntmps55
  go_wp2_with (go_at_call 35; refine (HC.out _).mono ?_; rintro e w' ⟨rfl, rfl⟩)
  go_ret
  exact ⟨rfl, rfl⟩
set_option maxHeartbeats 1000000 in
theorem span_digit (s : List UInt8) (at_ : Nat) (w : World) (hs : s.length ≤ 1073741824) (ha : at_ ≤ s.length) : Calls Tryz.prog 54 #[.string (B s), .int .i64 at_, .func (.func 101) #[] #[]] w fun e w' => e = .returned (.int .i64 (spanN digitB (s.drop at_))) ∧ w = w' := by
  have HF := Lib.hid fun c w => digit_any c w
  have a1 := no (show ¬ (at_ : Int) < 0 by omega)
  by_cases hal : at_ < s.length
  rotate_left
  · have hz : spanN digitB (s.drop at_) = 0 := by rw [List.drop_eq_nil_of_le (by omega)]; rfl
    have a2 : s.length ≤ at_ := by omega
    have a3 : (s.length : Int) ≤ (at_ : Int) := by omega
    rw [hz]
    clear hz hal
    go_enter Tryz.func54, Tryz.ntmps54
    go_wp2
    go_step3
    go_wp2
    rw [Exit.noGoto_ret]
    go_ret
    exact ⟨rfl, rfl⟩
  have a2 := no (show ¬ s.length ≤ at_ by omega)
  go_enter Tryz.func54, Tryz.ntmps54
  go_wp2
  go_step3
  go_wp2
  go_step3
  go_wp2
  go_loopw [7] (fun i w' => ∃ k : Nat, at_ + k ≤ s.length ∧ i = .int .i64 k ∧ w = w' ∧ Hid (spanN digitB (s.drop at_) = k + spanN digitB (s.drop (at_ + k)))) (fun i _ => s.length - (intOf i).toNat)
  case atStart => exact ⟨0, by omega, rfl, rfl, by show _ = _; rw [Nat.zero_add, Nat.add_zero]⟩
  case round =>
    obtain ⟨k, hk, rfl, rfl, HK⟩ := hrel
    obtain ⟨n, hn⟩ : ∃ n : Nat, n = at_ + k := ⟨_, rfl⟩
    have hn2 : (at_ : Int) + (k : Int) = (n : Int) := by omega
    have HN := Lib.hid hn
    rw [← hn] at HK
    by_cases hlt : n < s.length
    · have n0 : (0 : Int) ≤ (n : Int) := by omega
      have n1 : (n : Int) < (s.length : Int) := by omega
      have HFC := Lib.hid (HF.out s[n])
      have HS := Lib.hid (spanN_step digitB hlt)
      clear hn hal a1 a2
      cases hf : digitB s[n] with
      | true =>
        rw [hf] at HFC HS
        clear hf
        go_wp2_with (go_at_call 101; refine (HFC.out _).mono ?_; rintro e w' ⟨rfl, rfl⟩)
        go_roundw
        case rel => exact ⟨k + 1, by have := HN.out; omega, by go_num, by trivial, by
          show _ = _
          have h1 := HK.out
          have h2 := HS.out
          rw [if_pos trivial] at h2
          rw [h1, h2, show at_ + (k + 1) = n + 1 by have := HN.out; omega]
          omega⟩
        case measure => have := HN.out; simp [intOf]; omega
      | false =>
        rw [hf] at HFC HS
        clear hf
        go_wp2_with (go_at_call 101; refine (HFC.out _).mono ?_; rintro e w' ⟨rfl, rfl⟩)
        rw [Exit.noGoto_ret]
        go_ret
        refine ⟨?_, rfl⟩
        have h2 := HS.out
        rw [if_neg (by simp)] at h2
        rw [HK.out, h2]
        rfl
    · have d0 := no hlt
      have hz : spanN digitB (s.drop n) = 0 := by rw [List.drop_eq_nil_of_le (by omega)]; rfl
      rw [hz] at HK
      clear hz hn hal a1 a2 hlt
      go_wp2
      rw [Exit.noGoto_ret]
      go_ret
      refine ⟨?_, rfl⟩
      rw [HK.out]
      rfl
set_option maxHeartbeats 1000000 in
theorem span_blank (s : List UInt8) (at_ : Nat) (w : World) (hs : s.length ≤ 1073741824) (ha : at_ ≤ s.length) : Calls Tryz.prog 54 #[.string (B s), .int .i64 at_, .func (.func 55) #[] #[]] w fun e w' => e = .returned (.int .i64 (spanN blankB (s.drop at_))) ∧ w = w' := by
  have HF := Lib.hid fun c w => blank_any c w
  have a1 := no (show ¬ (at_ : Int) < 0 by omega)
  by_cases hal : at_ < s.length
  rotate_left
  · have hz : spanN blankB (s.drop at_) = 0 := by rw [List.drop_eq_nil_of_le (by omega)]; rfl
    have a2 : s.length ≤ at_ := by omega
    have a3 : (s.length : Int) ≤ (at_ : Int) := by omega
    rw [hz]
    clear hz hal
    go_enter Tryz.func54, Tryz.ntmps54
    go_wp2
    go_step3
    go_wp2
    rw [Exit.noGoto_ret]
    go_ret
    exact ⟨rfl, rfl⟩
  have a2 := no (show ¬ s.length ≤ at_ by omega)
  go_enter Tryz.func54, Tryz.ntmps54
  go_wp2
  go_step3
  go_wp2
  go_step3
  go_wp2
  go_loopw [7] (fun i w' => ∃ k : Nat, at_ + k ≤ s.length ∧ i = .int .i64 k ∧ w = w' ∧ Hid (spanN blankB (s.drop at_) = k + spanN blankB (s.drop (at_ + k)))) (fun i _ => s.length - (intOf i).toNat)
  case atStart => exact ⟨0, by omega, rfl, rfl, by show _ = _; rw [Nat.zero_add, Nat.add_zero]⟩
  case round =>
    obtain ⟨k, hk, rfl, rfl, HK⟩ := hrel
    obtain ⟨n, hn⟩ : ∃ n : Nat, n = at_ + k := ⟨_, rfl⟩
    have hn2 : (at_ : Int) + (k : Int) = (n : Int) := by omega
    have HN := Lib.hid hn
    rw [← hn] at HK
    by_cases hlt : n < s.length
    · have n0 : (0 : Int) ≤ (n : Int) := by omega
      have n1 : (n : Int) < (s.length : Int) := by omega
      have HFC := Lib.hid (HF.out s[n])
      have HS := Lib.hid (spanN_step blankB hlt)
      clear hn hal a1 a2
      cases hf : blankB s[n] with
      | true =>
        rw [hf] at HFC HS
        clear hf
        go_wp2_with (go_at_call 55; refine (HFC.out _).mono ?_; rintro e w' ⟨rfl, rfl⟩)
        go_roundw
        case rel => exact ⟨k + 1, by have := HN.out; omega, by go_num, by trivial, by
          show _ = _
          have h1 := HK.out
          have h2 := HS.out
          rw [if_pos trivial] at h2
          rw [h1, h2, show at_ + (k + 1) = n + 1 by have := HN.out; omega]
          omega⟩
        case measure => have := HN.out; simp [intOf]; omega
      | false =>
        rw [hf] at HFC HS
        clear hf
        go_wp2_with (go_at_call 55; refine (HFC.out _).mono ?_; rintro e w' ⟨rfl, rfl⟩)
        rw [Exit.noGoto_ret]
        go_ret
        refine ⟨?_, rfl⟩
        have h2 := HS.out
        rw [if_neg (by simp)] at h2
        rw [HK.out, h2]
        rfl
    · have d0 := no hlt
      have hz : spanN blankB (s.drop n) = 0 := by rw [List.drop_eq_nil_of_le (by omega)]; rfl
      rw [hz] at HK
      clear hz hn hal a1 a2 hlt
      go_wp2
      rw [Exit.noGoto_ret]
      go_ret
      refine ⟨?_, rfl⟩
      rw [HK.out]
      rfl

theorem digits_any (s : List UInt8) (at_ : Nat) (w : World) (hs : s.length ≤ 1073741824) (ha : at_ ≤ s.length) : Calls Tryz.prog 115 #[.string (B s), .int .i64 at_] w fun e w' => e = .returned (.int .i64 (spanN digitB (s.drop at_))) ∧ w = w' := by
  have H := Lib.hid (span_digit s at_ w hs ha)
  generalize spanN digitB (s.drop at_) = n at *
  go_enter Tryz.func115, Tryz.ntmps115
  go_wp2_with (go_at_call 54; refine (H.out).mono ?_; rintro e w' ⟨rfl, rfl⟩)
  go_ret
  exact ⟨rfl, rfl⟩
theorem blanks_any (s : List UInt8) (at_ : Nat) (w : World) (hs : s.length ≤ 1073741824) (ha : at_ ≤ s.length) : Calls Tryz.prog 33 #[.string (B s), .int .i64 at_] w fun e w' => e = .returned (.int .i64 (spanN blankB (s.drop at_))) ∧ w = w' := by
  have H := Lib.hid (span_blank s at_ w hs ha)
  generalize spanN blankB (s.drop at_) = n at *
  go_enter Tryz.func33, Tryz.ntmps33
  go_wp2_with (go_at_call 54; refine (H.out).mono ?_; rintro e w' ⟨rfl, rfl⟩)
  go_ret
  exact ⟨rfl, rfl⟩
/-- A byte that ends a word. -/
def endsB (c : UInt8) : Bool := clsB c == 1 || clsB c == 2 || clsB c == 3
theorem ends_any (c : UInt8) (w : World) : Calls Tryz.prog 84 #[.int .u8 c.toNat] w fun e w' => e = .returned (.bool (endsB c)) ∧ w = w' := by
  have HC := Lib.hid (of_any c)
  unfold endsB
  generalize clsB c = k at *
  go_enter Tryz.func84, Tryz.ntmps84
  go_wp2_with (go_at_call 35; refine (HC.out _).mono ?_; rintro e w' ⟨rfl, rfl⟩)
  all_goals
    go_ret
    refine ⟨ret_b ?_, rfl⟩
    simp [*]
theorem refEnds_any (c : UInt8) (w : World) : Calls Tryz.prog 49 #[.int .u8 c.toNat] w fun e w' => e = .returned (.bool (endsB c)) ∧ w = w' := by
  have HC := Lib.hid (refClass_any c)
  unfold endsB
  generalize clsB c = k at *
  go_enter Tryz.func49, Tryz.ntmps49
  go_wp2_with (go_at_call 26; refine (HC.out _).mono ?_; rintro e w' ⟨rfl, rfl⟩)
  all_goals
    go_ret
    refine ⟨ret_b ?_, rfl⟩
    simp [*]
/-- The reserved words. -/
def resL : List (List UInt8) := [[33], [123], [125], [99, 97, 115, 101], [100, 111], [100, 111, 110, 101], [101, 108, 105, 102], [101, 108, 115, 101], [101, 115, 97, 99], [102, 105], [102, 111, 114], [105, 102], [105, 110], [116, 104, 101, 110], [117, 110, 116, 105, 108], [119, 104, 105, 108, 101]]
def resB (s : List UInt8) : Bool := resL.contains s
end Go.Proofs.YtadaeecokkokjaaGreat.Cls
namespace Go.Proofs.YtadaeecokkokjaaGreat
open Go.ChangeShapes Go.WideShapes Go.Deep Go.RowKit
/-- The cells of a number, of a byte. -/
def numC (x : Int) : List Value := [.int .i64 x]
theorem numC_len {xs : List Int} : ∀ x ∈ xs, (numC x).length = 1 := fun _ _ => rfl
theorem numC_flat (xs : List Int) : (xs.flatMap numC).length = xs.length := by induction xs <;> simp_all [numC]
theorem numC_one {xs : List Int} : ∀ u ∈ xs.flatMap numC, u.oneCell' = true := by
  intro u hu
  simp [numC] at hu
  obtain ⟨a, _, rfl⟩ := hu
  rfl
theorem info_num : (Tryz.prog.info? 3).map (fun i => (i.zero, i.size, i.bytes)) = some (some (.int .i64 0), 1, 8) := by kernel_rfl
/-- What was there in a world W1 stands, where only what is newer has turned. -/
theorem Sl.old {F : Nat → Prop} {W1 w w' : World} {α : Type} {en : α → List Value} {sz : Nat} {v : Value} {xs : List α} (h1 : Sl W1 en sz v xs) (h : Sl w en sz v xs) (hk : Keeps F w w') (hF : ∀ k, F k → W1.heap.size ≤ k) : Sl w' en sz v xs := by
  obtain ⟨A, c, rfl, h2, h3, hn, h4⟩ := h
  obtain ⟨A', c', e, _, _, _, h4'⟩ := h1
  cases e
  refine ⟨A, c, rfl, h2, h3, hn, fun h0 => ?_⟩
  obtain ⟨b, off, rfl, hlt, hc⟩ := h4 h0
  obtain ⟨b', off', e, hlt', _⟩ := h4' h0
  cases e
  have hb := hk.block b hlt (fun hf => by have := hF b hf; omega)
  exact ⟨b, off, rfl, Nat.lt_of_lt_of_le hlt hk.size, fun k x hx j u hj => (World.cell?_of_block (w := w) hb).trans (hc k x hx j u hj)⟩
end Go.Proofs.YtadaeecokkokjaaGreat
