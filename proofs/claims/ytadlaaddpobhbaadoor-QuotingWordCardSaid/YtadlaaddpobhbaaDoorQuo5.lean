/-
  The walks of layer 17's reference, on: the forms of a text, the shortest one; its law's opening. Conditions: texts of at most 2^30 bytes.
-/
import Derived.Test.YtadlaaddpobhbaaDoorQuo4
namespace Go.Proofs.YtadlaaddpobhbaaDoor.Quo
open Go.ChangeShapes Go.WideShapes Go.Deep Go.RowKit Cls Bd Pat
set_option maxRecDepth 100000
/-- The head as the reference finds it. -/
def headR (s : List UInt8) : List UInt8 := if (allB s 6 || resB s) = true then (if (decide (s.length = 1) && clsB (s.getD 0 0) != 6) = true then [] else [92]) else []
theorem safe_digit : ∀ c : UInt8, clsB c = 6 → safeB c = true := by
  intro c h
  unfold safeB
  rw [h]
  rfl
theorem headR_eq {s : List UInt8} (h0 : s ≠ []) : headR s = headL s := by
  unfold headR headL riskB
  have h1 : (s != []) = true := by simpa using h0
  rw [h1, Bool.true_and, show s.all digitB = allB s 6 from rfl]
  obtain ⟨c, l, rfl⟩ := List.exists_cons_of_ne_nil h0
  rw [show (c :: l).getD 0 0 = c from rfl]
  cases ha : allB (c :: l) 6 with
  | true =>
    have hc : clsB c = 6 := by
      have : (clsB c == 6 && allB l 6) = true := ha
      rw [Bool.and_eq_true, beq_iff_eq] at this
      exact this.1
    rw [safe_digit c hc, hc]
    simp
  | false =>
    cases hr : resB (c :: l) with
    | false => simp
    | true =>
      have hall : ∀ x ∈ resL, (decide (x.length = 1) && clsB (x.getD 0 0) != 6) = !safeB (x.getD 0 0) := by decide +kernel
      have := hall (c :: l) (List.contains_iff_mem.1 hr)
      rw [show (c :: l).getD 0 0 = c from rfl] at this
      rw [this]
      cases safeB c <;> rfl
def escK (s : List UInt8) (k : Nat) : List UInt8 := headL s ++ (s.take k).flatMap escB
theorem escK_all {s : List UInt8} (h : s ≠ []) : escK s s.length = plnL s := by
  unfold escK plnL
  rw [if_neg h, List.take_length]
theorem escK_step {s : List UInt8} {k : Nat} (h : k < s.length) : escK s (k + 1) = escK s k ++ escB s[k] := by
  unfold escK
  rw [List.take_succ_eq_append_getElem h, List.flatMap_append]
  simp
theorem escK_A {s : List UInt8} {k : Nat} (h : k < s.length) (h10 : ((s[k].toNat : Int) == 10) = true) : escK s (k + 1) = escK s k ++ [39, 10, 39] := by
  rw [is10, beq_iff_eq] at h10
  rw [escK_step h]
  unfold escB
  rw [if_pos h10]
theorem escK_B {s : List UInt8} {k : Nat} (h : k < s.length) (h10 : ((s[k].toNat : Int) == 10) = false) (hs : safeB s[k] = false) : escK s (k + 1) = escK s k ++ [92, s[k]] := by
  rw [is10, beq_eq_false_iff_ne] at h10
  rw [escK_step h]
  unfold escB
  rw [if_neg h10, if_neg (by rw [hs]; simp)]
theorem escK_C {s : List UInt8} {k : Nat} (h : k < s.length) (h10 : ((s[k].toNat : Int) == 10) = false) (hs : safeB s[k] = true) : escK s (k + 1) = escK s k ++ [s[k]] := by
  rw [is10, beq_eq_false_iff_ne] at h10
  rw [escK_step h]
  unfold escB
  rw [if_neg h10, if_pos hs]
theorem escK_len (s : List UInt8) (k : Nat) (hk : k ≤ s.length) : (escK s k).length ≤ 3 * s.length + 1 := by
  unfold escK
  have h1 := flat_len escB_len (s.take k)
  have h2 := headL_len s
  rw [List.length_append]
  rw [List.length_take] at h1
  have : 3 * (min k s.length) ≤ 3 * s.length := Nat.mul_le_mul_left 3 (by omega)
  omega
theorem sglK_len (s : List UInt8) (k : Nat) (hk : k ≤ s.length) : (sglK s k).length ≤ 4 * s.length + 1 := by
  unfold sglK
  have h1 := flat_len sglE_len (s.take k)
  rw [List.length_take] at h1
  have : 4 * (min k s.length) ≤ 4 * s.length := Nat.mul_le_mul_left 4 (by omega)
  rw [List.length_cons]
  omega
theorem take_drop1 {s : List UInt8} {k : Nat} (h : k < s.length) : (s.take (k + 1)).drop k = [s[k]] := by
  rw [List.drop_take, show k + 1 - k = 1 by omega, List.drop_eq_getElem_cons h]
  rfl
theorem is39 {c : UInt8} : ((c.toNat : Int) == 39) = (c == 39) := by
  rw [Bool.eq_iff_iff, beq_iff_eq, beq_iff_eq]
  constructor
  · intro h; exact UInt8.toNat_inj.1 (by simpa using (show c.toNat = 39 by omega))
  · rintro rfl; rfl
theorem dbl_in (c : UInt8) : ([36, 96, 34, 92] : List UInt8).contains c = dblB c := by
  have h : ∀ n : Fin 256, ([36, 96, 34, 92] : List UInt8).contains (UInt8.ofNat n.val) = dblB (UInt8.ofNat n.val) := by decide +kernel
  have := h ⟨c.toNat, c.toNat_lt⟩
  simpa using this
set_option maxHeartbeats 2000000 in
theorem refEncode4 (s : List UInt8) (closed : Bool) (w : World) (hs : s.length ≤ 1073741824) : Calls Tryd.prog 11 #[.string (B s), .int .i64 4, .bool closed] w fun e w' => e = .returned (.string (B (encL s 4 closed))) ∧ w = w' := by
  have HR := Lib.hid (show encL s 4 closed = sglL s ++ endL closed 39 from rfl)
  unfold endL at HR
  go_enter Tryd.func11, Tryd.ntmps11
  go_wp2
  rw [show ({ data := #[] } : ByteArray) = B [] from rfl, show ({ data := #[39] } : ByteArray) = B (sglK s 0) from rfl]
  go_loopw [7, 8] (fun t i w' => ∃ k : Nat, k ≤ s.length ∧ i = .int .i64 k ∧ t = .string (B (sglK s k)) ∧ w = w') (fun _ i _ => s.length - (intOf i).toNat)
  case atStart => exact ⟨0, by omega, rfl, rfl, rfl⟩
  case round =>
    obtain ⟨k, hk, rfl, rfl, rfl⟩ := hrel
    have hlen := sglK_len s k hk
    by_cases hlt : k < s.length
    · have h0 : (0 : Int) ≤ (k : Int) := by omega
      have h1 : (k : Int) < (s.length : Int) := by omega
      have h2 : (k : Int) + 1 ≤ (s.length : Int) := by omega
      have htd := take_drop1 hlt
      have HST := Lib.hid (sglK_step hlt)
      by_cases hc : s[k] = 39
      · have e1 := is_b (n := 39) rfl hc
        have hE : sglE s[k] = [39, 92, 39, 39] := by unfold sglE; rw [if_pos hc]
        rw [hE] at HST
        clear hc hE
        go_wp2
        go_roundw
        case rel => exact ⟨k + 1, by omega, by go_num, by rw [HST.out], by trivial⟩
        case measure => simp [intOf]; omega
      · have e1 := not_b (n := 39) rfl hc
        have hE : sglE s[k] = [s[k]] := by unfold sglE; rw [if_neg hc]
        rw [hE] at HST
        clear hc hE
        go_wp2
        go_roundw
        case rel => exact ⟨k + 1, by omega, by go_num, by rw [HST.out], by trivial⟩
        case measure => simp [intOf]; omega
    · have hk' : k = s.length := by omega
      subst hk'
      rw [sglK_all] at hlen
      have HA := Lib.hid (sglK_all s)
      rw [HA.out]
      clear hlt
      cases closed with
      | true =>
        go_wp2
        go_ret
        exact ⟨by rw [HR.out]; rfl, rfl⟩
      | false =>
        go_wp2
        go_ret
        exact ⟨by rw [HR.out]; simp, rfl⟩
set_option maxHeartbeats 2000000 in
theorem refEncode5 (s : List UInt8) (closed : Bool) (w : World) (hs : s.length ≤ 1073741824) : Calls Tryd.prog 11 #[.string (B s), .int .i64 5, .bool closed] w fun e w' => e = .returned (.string (B (encL s 5 closed))) ∧ w = w' := by
  have HR := Lib.hid (show encL s 5 closed = dblL s ++ endL closed 34 from rfl)
  unfold endL at HR
  have HI := Lib.hid fun c w => in_any c [36, 96, 34, 92] w (by simp)
  go_enter Tryd.func11, Tryd.ntmps11
  go_wp2
  rw [show ({ data := #[] } : ByteArray) = B [] from rfl, show ({ data := #[34] } : ByteArray) = B (dblK s 0) from rfl]
  go_loopw [7, 9] (fun t i w' => ∃ k : Nat, k ≤ s.length ∧ i = .int .i64 k ∧ t = .string (B (dblK s k)) ∧ w = w') (fun _ i _ => s.length - (intOf i).toNat)
  case atStart => exact ⟨0, by omega, rfl, rfl, rfl⟩
  case round =>
    obtain ⟨k, hk, rfl, rfl, rfl⟩ := hrel
    have hlen := dblK_len s k hk
    by_cases hlt : k < s.length
    · have h0 : (0 : Int) ≤ (k : Int) := by omega
      have h1 : (k : Int) < (s.length : Int) := by omega
      have h2 : (k : Int) + 1 ≤ (s.length : Int) := by omega
      have htd := take_drop1 hlt
      have HST := Lib.hid (dblK_step hlt)
      have HII := Lib.hid fun w => HI.out s[k] w
      rw [dbl_in] at HII
      cases hc : dblB s[k] with
      | true =>
        rw [hc] at HII
        have hE : dblE s[k] = [92, s[k]] := by unfold dblE; rw [if_pos hc]
        rw [hE] at HST
        clear hc hE
        go_wp2_with (go_at_call 24; refine (HII.out _).mono ?_; rintro e w' ⟨rfl, rfl⟩)
        go_roundw
        case rel => exact ⟨k + 1, by omega, by go_num, by rw [HST.out], by trivial⟩
        case measure => simp [intOf]; omega
      | false =>
        rw [hc] at HII
        have hE : dblE s[k] = [s[k]] := by unfold dblE; rw [if_neg (by rw [hc]; simp)]
        rw [hE] at HST
        clear hc hE
        go_wp2_with (go_at_call 24; refine (HII.out _).mono ?_; rintro e w' ⟨rfl, rfl⟩)
        go_roundw
        case rel => exact ⟨k + 1, by omega, by go_num, by rw [HST.out], by trivial⟩
        case measure => simp [intOf]; omega
    · have hk' : k = s.length := by omega
      subst hk'
      rw [dblK_all] at hlen
      have HA := Lib.hid (dblK_all s)
      rw [HA.out]
      clear hlt
      cases closed with
      | true =>
        go_wp2
        go_ret
        exact ⟨by rw [HR.out]; rfl, rfl⟩
      | false =>
        go_wp2
        go_ret
        exact ⟨by rw [HR.out]; simp, rfl⟩
set_option maxHeartbeats 4000000 in
theorem refEncode0 (s : List UInt8) (state : Int) (h4 : state ≠ 4) (h5 : state ≠ 5) (closed : Bool) (w : World) (hs : s.length ≤ 1073741824) : Calls Tryd.prog 11 #[.string (B s), .int .i64 state, .bool closed] w fun e w' => e = .returned (.string (B (plnL s))) ∧ w = w' := by
  have t4 : (state == 4) = false := by simpa using h4
  have t5 : (state == 5) = false := by simpa using h5
  clear h4 h5
  by_cases h0 : s = []
  · subst h0
    go_enter Tryd.func11, Tryd.ntmps11
    go_wp2
    go_ret
    exact ⟨rfl, rfl⟩
  have hl : 0 < s.length := List.length_pos_iff.2 h0
  have e0 : (s == []) = false := by simpa using h0
  have l0 : (0 : Int) < (s.length : Int) := by omega
  have hh := (headR_eq h0).symm
  unfold headR at hh
  have h1 : decide (s.length = 1) = ((s.length : Int) == 1) := by
    rw [Bool.eq_iff_iff, decide_eq_true_iff, beq_iff_eq]
    omega
  rw [h1, show s.getD 0 0 = s[0] by simp [List.getD, List.getElem?_eq_getElem hl]] at hh
  have HA := Lib.hid fun w => all_any s 6 w hs
  have HRR := Lib.hid fun w => refReserved_any s w hs
  have HC := Lib.hid fun w => refClass_any s[0] w
  have HSF := Lib.hid fun c w => refSafe_any c w
  have HK := Lib.hid (escK_all h0)
  have HK0 := Lib.hid (show escK s 0 = headL s by unfold escK; simp)
  clear h1 h0
  generalize allB s 6 = a at *
  generalize resB s = r at *
  generalize clsB s[0] = c at *
  generalize hb1 : ((s.length : Int) == 1) = b1 at *
  have HH := Lib.hid hh
  clear hh
  have hcase : (a = false ∧ r = false) ∨ ((a = true ∨ (a = false ∧ r = true)) ∧ (b1 = false ∨ (b1 = true ∧ (c != 6) = false) ∨ (b1 = true ∧ (c != 6) = true))) := by
    cases a <;> cases r <;> cases b1 <;> cases (c != 6) <;> simp
  rcases hcase with ⟨rfl, rfl⟩ | ⟨rfl | ⟨rfl, rfl⟩, rfl | ⟨rfl, hc6⟩ | ⟨rfl, hc6⟩⟩
  all_goals
    go_enter Tryd.func11, Tryd.ntmps11
    go_wp2_with (first | (go_at_call 25; refine (HA.out _).mono ?_; rintro e w' ⟨rfl, rfl⟩) | (go_at_call 26; refine (HRR.out _).mono ?_; rintro e w' ⟨rfl, rfl⟩) | (go_at_call 27; refine (HC.out _).mono ?_; rintro e w' ⟨rfl, rfl⟩))
    try rw [show ({ data := #[] } : ByteArray) = B [] from rfl]
    try rw [show ({ data := #[92] } : ByteArray) = B [92] from rfl]
    go_loopw [7, 10] (fun t i w' => ∃ k : Nat, k ≤ s.length ∧ i = .int .i64 k ∧ t = .string (B (escK s k)) ∧ w = w') (fun _ i _ => s.length - (intOf i).toNat)
    case atStart => exact ⟨0, by omega, rfl, by rw [HK0.out, HH.out]; simp [*], rfl⟩
    case round =>
      clear hb1 HH HA HRR HC HK0
      obtain ⟨k, hk, rfl, rfl, rfl⟩ := hrel
      have hlen := escK_len s k hk
      by_cases hlt : k < s.length
      · have h0 : (0 : Int) ≤ (k : Int) := by omega
        have h1 : (k : Int) < (s.length : Int) := by omega
        have h2 : (k : Int) + 1 ≤ (s.length : Int) := by omega
        have htd := take_drop1 hlt
        have HA := Lib.hid (escK_A hlt)
        have HB := Lib.hid (escK_B hlt)
        have HC := Lib.hid (escK_C hlt)
        have HS := Lib.hid fun w => HSF.out s[k] w
        generalize safeB s[k] = sf at *
        go_wp2_with (go_at_call 28; refine (HS.out _).mono ?_; rintro e w' ⟨rfl, rfl⟩)
        all_goals
          go_roundw
          case rel => exact ⟨k + 1, by omega, by go_num, by first | exact congrArg (fun l => Value.string (B l)) (HA.out (by simp [*])).symm | exact congrArg (fun l => Value.string (B l)) (HB.out (by simp [*]) (by simp [*])).symm | exact congrArg (fun l => Value.string (B l)) (HC.out (by simp [*]) (by simp [*])).symm, by trivial⟩
          case measure => simp [intOf]; omega
      · have hk' : k = s.length := by omega
        subst hk'
        rw [HK.out]
        clear hlt hlen
        go_wp2
        go_ret
        exact ⟨rfl, rfl⟩
theorem refEncode_any (s : List UInt8) (state : Int) (closed : Bool) (w : World) (hs : s.length ≤ 1073741824) : Calls Tryd.prog 11 #[.string (B s), .int .i64 state, .bool closed] w fun e w' => e = .returned (.string (B (encL s state closed))) ∧ w = w' := by
  by_cases h4 : state = 4
  · subst h4; exact refEncode4 s closed w hs
  by_cases h5 : state = 5
  · subst h5; exact refEncode5 s closed w hs
  have h := refEncode0 s state h4 h5 closed w hs
  unfold encL
  rw [if_neg h4, if_neg h5]
  exact h
end Go.Proofs.YtadlaaddpobhbaaDoor.Quo
