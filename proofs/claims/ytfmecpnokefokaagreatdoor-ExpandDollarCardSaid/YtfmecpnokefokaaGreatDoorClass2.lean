/-
  The walks of layer 4 (class), on: names; of layer 19 (tables): May, and the reference's. Conditions: texts of at most 2^30 bytes.
-/
import Derived.Test.YtfmecpnokefokaaGreatDoorClass
set_option linter.unusedSimpArgs false
set_option linter.unusedVariables false
namespace Go.Proofs.YtfmecpnokefokaaGreatDoor.Cls
open Go.ChangeShapes Go.WideShapes Go.Deep Go.RowKit
set_option maxRecDepth 100000
def nameN (s : List UInt8) (at_ : Nat) : Nat := if spanN letterB (s.drop at_) == 0 then 0 else spanN nameB (s.drop at_)
theorem name_any (s : List UInt8) (at_ : Nat) (w : World) (hs : s.length ≤ 1073741824) (ha : at_ ≤ s.length) : Calls Tryz.prog 79 #[.string (B s), .int .i64 at_] w fun e w' => e = .returned (.int .i64 (nameN s at_)) ∧ w = w' := by
 have HL := Lib.hid (span_letter s at_ · hs ha)
 have HN := Lib.hid (span_name s at_ · hs ha)
 unfold nameN
 generalize spanN letterB (s.drop at_) = a at *
 generalize spanN nameB (s.drop at_) = b at *
 by_cases h : a = 0
 ·subst h
  go_enter Tryz.func79, Tryz.ntmps79
  go_wp2_with (go_at_call 114; (with_reducible refine (HL.out _).mono ?_); rintro e w' ⟨rfl, rfl⟩)
  go_ret
  exact ⟨rfl, rfl⟩
 ·have h1 : ((a : Int) == 0) = false := by simpa using h
  have h2 : (a == 0) = false := by simpa using h
  go_enter Tryz.func79, Tryz.ntmps79
  go_wp2_with (first | (go_at_call 114; (with_reducible refine (HL.out _).mono ?_); rintro e w' ⟨rfl, rfl⟩) | (go_at_call 114; (with_reducible refine (HN.out _).mono ?_); rintro e w' ⟨rfl, rfl⟩))
  go_ret
  exact ⟨rfl, rfl⟩
theorem span_all (f : UInt8 → Bool) : ∀ l, (spanN f l == l.length) = l.all f
 | [] => rfl
 | c :: l => by
  have ih := span_all f l
  unfold spanN at *
  rw [List.takeWhile_cons, List.all_cons]
  cases hf : f c with
  | true =>
   rw [if_pos rfl, List.length_cons, List.length_cons, Bool.true_and, ← ih, Bool.eq_iff_iff]
   simp
  | false => simp
def isNameB (s : List UInt8) : Bool := letterB (s.getD 0 0) && s.all nameB
theorem isName_eq (s : List UInt8) (h : 0 < s.length) : (nameN s 0 == s.length) = isNameB s := by
 match s, h with
 | c :: r, _ =>
  unfold nameN isNameB
  rw [List.drop_zero]
  show _ = (letterB c && _)
  cases hc : letterB c with
  | true =>
   have h1 : (spanN letterB (c :: r) == 0) = false := by unfold spanN; rw [List.takeWhile_cons, if_pos hc]; simp
   rw [h1, if_neg (by simp), span_all]
   rfl
  | false =>
   have h1 : (spanN letterB (c :: r) == 0) = true := by unfold spanN; rw [List.takeWhile_cons, if_neg (by rw [hc]; simp)]; rfl
   rw [h1, if_pos rfl]
   simp
theorem isName_any (s : List UInt8) (w : World) (hs : s.length ≤ 1073741824) : Calls Tryz.prog 92 #[.string (B s)] w fun e w' => e = .returned (.bool (isNameB s)) ∧ w = w' := by
 have HN := Lib.hid fun w => name_any s 0 w hs (by omega)
 rcases Nat.eq_zero_or_pos s.length with h | h
 ·have : s = [] := List.eq_nil_of_length_eq_zero h
  subst this
  go_enter Tryz.func92, Tryz.ntmps92
  go_wp2
  go_ret
  exact ⟨rfl, rfl⟩
 ·have HE := Lib.hid (isName_eq s h)
  have hne : s.isEmpty = false := by cases s with
   | nil => simp at h
   | cons _ _ => rfl
  generalize nameN s 0 = a at *
  by_cases ha : a = s.length
  ·have h1 : ((a : Int) == (s.length : Int)) = true := by rw [ha]; simp
   have HR := Lib.hid (show isNameB s = true by rw [← HE.out, ha]; simp)
   clear ha
   go_enter Tryz.func92, Tryz.ntmps92
   go_wp2_with (go_at_call 79; refine (HN.out _).mono ?_; rintro e w' ⟨rfl, rfl⟩)
   go_ret
   exact ⟨by rw [HR.out]; rfl, rfl⟩
  ·have h1 : ((a : Int) == (s.length : Int)) = false := by rw [beq_eq_false_iff_ne]; omega
   have HR := Lib.hid (show isNameB s = false by rw [← HE.out]; simpa using ha)
   clear ha
   go_enter Tryz.func92, Tryz.ntmps92
   go_wp2_with (go_at_call 79; refine (HN.out _).mono ?_; rintro e w' ⟨rfl, rfl⟩)
   go_ret
   exact ⟨by rw [HR.out]; rfl, rfl⟩
theorem nameB_eq (c : UInt8) : nameB c = (clsB c == 5 || clsB c == 6) := rfl
set_option maxHeartbeats 1000000 in
theorem refIsName_any (s : List UInt8) (w : World) (hs : s.length ≤ 1073741824) : Calls Tryz.prog 20 #[.string (B s)] w fun e w' => e = .returned (.bool (isNameB s)) ∧ w = w' := by
 have HC := Lib.hid refClass_any
 rcases Nat.eq_zero_or_pos s.length with h | h
 ·have : s = [] := List.eq_nil_of_length_eq_zero h
  subst this
  go_enter Tryz.func20, Tryz.ntmps20
  go_wp2
  go_ret
  exact ⟨rfl, rfl⟩
 ·have HC0 := Lib.hid (HC.out s[0])
  have hg : s.getD 0 0 = s[0] := by rw [List.getD_eq_getElem?_getD, List.getElem?_eq_getElem h]; rfl
  have HE := Lib.hid (show isNameB s = ((clsB s[0] == 5) && s.all nameB) by unfold isNameB; rw [hg]; rfl)
  have h0 : ((s.length : Int) == 0) = false := by rw [beq_eq_false_iff_ne]; omega
  have h1 : (0 : Int) < (s.length : Int) := by omega
  have HH := Lib.hid h
  have HN0 := Lib.hid (show clsB s[0] = 5 → (s.take 1).all nameB = true from fun e => by
   rw [List.take_succ_eq_append_getElem h]
   simp [nameB, letterB]
   exact .inl e)
  clear hg
  generalize clsB s[0] = q at *
  by_cases h5 : q = 5
  rotate_left
  ·have h6 : (q == 5) = false := by simpa using h5
   have h7 : (q != 5) = true := by simpa using h5
   rw [h6, Bool.false_and] at HE
   clear h5
   go_enter Tryz.func20, Tryz.ntmps20
   go_wp2_with (go_at_call 45; refine (HC0.out _).mono ?_; rintro e w' ⟨rfl, rfl⟩)
   go_ret
   exact ⟨by rw [HE.out]; rfl, rfl⟩
  ·subst h5
   have HE2 : Hid (isNameB s = s.all nameB) := HE.out
   go_enter Tryz.func20, Tryz.ntmps20
   go_wp2_with (go_at_call 45; refine (HC0.out _).mono ?_; rintro e w' ⟨rfl, rfl⟩)
   clear HC0 HE
   go_loopw [3] (fun i w' => ∃ k : Nat, k ≤ s.length ∧ i = .int .i64 k ∧ w = w' ∧ Hid ((s.take k).all nameB = true)) (fun i _ => s.length - (intOf i).toNat)
   case atStart => exact ⟨1, by omega, rfl, rfl, HN0.out trivial⟩
   case round =>
    clear HN0
    obtain ⟨k, hk, rfl, rfl, HK⟩ := hrel
    by_cases hlt : k < s.length
    ·have k0 : (0 : Int) ≤ (k : Int) := by omega
     have k1 : (k : Int) < (s.length : Int) := by omega
     have HCK := Lib.hid (HC.out s[k])
     have HT := Lib.hid (show (s.take (k + 1)).all nameB = (clsB s[k] == 5 || clsB s[k] == 6) by
      rw [List.take_succ_eq_append_getElem hlt, List.all_append, HK.out]
      simp [nameB, letterB, digitB])
     have HX := Lib.hid (show (clsB s[k] == 5 || clsB s[k] == 6) = false → s.all nameB = false from fun e => by
      rw [List.all_eq_false]
      exact ⟨s[k], List.getElem_mem hlt, by rw [nameB_eq, e]; simp⟩)
     generalize clsB s[k] = q at *
     by_cases q5 : q = 5
     ·subst q5
      go_wp2_with (go_at_call 45; refine (HCK.out _).mono ?_; rintro e w' ⟨rfl, rfl⟩)
      go_roundw
      case rel => exact ⟨k + 1, by omega, by go_num, by trivial, by show _ = _; rw [HT.out]; rfl⟩
      case measure => simp [intOf]; omega
     by_cases q6 : q = 6
     ·subst q6
      go_wp2_with (go_at_call 45; refine (HCK.out _).mono ?_; rintro e w' ⟨rfl, rfl⟩)
      go_roundw
      case rel => exact ⟨k + 1, by omega, by go_num, by trivial, by show _ = _; rw [HT.out]; rfl⟩
      case measure => simp [intOf]; omega
     have z5 : (q != 5) = true := by simpa using q5
     have z6 : (q != 6) = true := by simpa using q6
     have HR := Lib.hid (HX.out (by simp [q5, q6]))
     clear q5 q6
     go_wp2_with (go_at_call 45; refine (HCK.out _).mono ?_; rintro e w' ⟨rfl, rfl⟩)
     go_ret
     exact ⟨by rw [HE2.out, HR.out]; rfl, rfl⟩
    ·have hk2 : k = s.length := by omega
     have HR : Hid (s.all nameB = true) := by have := HK.out; rw [hk2, List.take_length] at this; exact this
     have d0 := no hlt
     clear hk2 hlt
     go_wp2
     go_ret
     exact ⟨by rw [HE2.out, HR.out]; rfl, rfl⟩
def wordB (s : List UInt8) : Bool := !s.isEmpty && s.all fun c => safeB c && !(c == 47)
set_option maxHeartbeats 1000000 in
theorem word_any (s : List UInt8) (w : World) (hs : s.length ≤ 1073741824) : Calls Tryz.prog 93 #[.string (B s)] w fun e w' => e = .returned (.bool (wordB s)) ∧ w = w' := by
 have HC := Lib.hid safe_any
 rcases Nat.eq_zero_or_pos s.length with h | h
 ·have : s = [] := List.eq_nil_of_length_eq_zero h
  subst this
  go_enter Tryz.func93, Tryz.ntmps93
  go_wp2
  go_step3
  go_wp2
  rw [Exit.noGoto_ret]
  go_ret
  exact ⟨rfl, rfl⟩
 ·have hne : s.isEmpty = false := by cases s with
   | nil => simp at h
   | cons _ _ => rfl
  have HE := Lib.hid (show wordB s = s.all fun c => safeB c && !(c == 47) by unfold wordB; rw [hne]; rfl)
  go_enter Tryz.func93, Tryz.ntmps93
  go_wp2
  go_step3
  go_wp2
  go_step3
  go_wp2
  go_loopw [8] (fun i w' => ∃ k : Nat, k ≤ s.length ∧ i = .int .i64 k ∧ w = w' ∧ Hid ((s.take k).all (fun c => safeB c && !(c == 47)) = true)) (fun i _ => s.length - (intOf i).toNat)
  case atStart => exact ⟨0, by omega, rfl, rfl, rfl⟩
  case round =>
   obtain ⟨k, hk, rfl, rfl, HK⟩ := hrel
   by_cases hlt : k < s.length
   ·have k0 : (0 : Int) ≤ (k : Int) := by omega
    have k1 : (k : Int) < (s.length : Int) := by omega
    have HCK := Lib.hid (HC.out s[k])
    have HT := Lib.hid (show (s.take (k + 1)).all (fun c => safeB c && !(c == 47)) = (safeB s[k] && !(s[k] == 47)) by
     rw [List.take_succ_eq_append_getElem hlt, List.all_append, HK.out]
     simp)
    have HX := Lib.hid (show (safeB s[k] && !(s[k] == 47)) = false → s.all (fun c => safeB c && !(c == 47)) = false from fun e => by
     rw [List.all_eq_false]
     exact ⟨s[k], List.getElem_mem hlt, by rw [e]; simp⟩)
    cases hsf : safeB s[k] with
    | false =>
     rw [hsf] at HCK
     have HR := Lib.hid (HX.out (by rw [hsf]; rfl))
     clear hsf
     go_wp2_with (go_at_call 127; refine (HCK.out _).mono ?_; rintro e w' ⟨rfl, rfl⟩)
     rw [Exit.noGoto_ret]
     go_ret
     exact ⟨by rw [HE.out, HR.out]; rfl, rfl⟩
    | true =>
     rw [hsf] at HCK
     by_cases hc : s[k] = 47
     ·have z1 := Pat.is_nb (n := 47) rfl hc
      have HR := Lib.hid (HX.out (by rw [hc]; simp))
      clear hc hsf
      go_wp2_with (go_at_call 127; refine (HCK.out _).mono ?_; rintro e w' ⟨rfl, rfl⟩)
      rw [Exit.noGoto_ret]
      go_ret
      exact ⟨by rw [HE.out, HR.out]; rfl, rfl⟩
     ·have z1 := Pat.not_nb (n := 47) rfl hc
      rw [hsf, show (s[k] == 47) = false by simpa using hc] at HT
      clear hc hsf
      go_wp2_with (go_at_call 127; refine (HCK.out _).mono ?_; rintro e w' ⟨rfl, rfl⟩)
      go_roundw
      case rel => exact ⟨k + 1, by omega, by go_num, by trivial, by show _ = _; rw [HT.out]; rfl⟩
      case measure => simp [intOf]; omega
   ·have hk2 : k = s.length := by omega
    have HR : Hid (s.all (fun c => safeB c && !(c == 47)) = true) := by have := HK.out; rw [hk2, List.take_length] at this; exact this
    have d0 := no hlt
    have d1 := no (show ¬ (k : Int) < (s.length : Int) by omega)
    clear hk2 hlt
    go_wp2
    rw [Exit.noGoto_ret]
    go_ret
    exact ⟨by rw [HE.out, HR.out]; rfl, rfl⟩
def mayB (kind : Int) (s : List UInt8) : Bool := if kind == 1 || kind == 3 then isNameB s else if kind == 2 || kind == 4 then wordB s else false
theorem may_any (kind : Int) (s : List UInt8) (w : World) (hs : s.length ≤ 1073741824) : Calls Tryz.prog 58 #[.int .i64 kind, .string (B s)] w fun e w' => e = .returned (.bool (mayB kind s)) ∧ w = w' := by
 have HN := Lib.hid (isName_any s · hs)
 have HW := Lib.hid (word_any s · hs)
 unfold mayB
 generalize isNameB s = a at *
 generalize wordB s = b at *
 go_enter Tryz.func58, Tryz.ntmps58
 go_wp2_with (first | (go_at_call 92; refine (HN.out _).mono ?_; rintro e w' ⟨rfl, rfl⟩) | (go_at_call 93; refine (HW.out _).mono ?_; rintro e w' ⟨rfl, rfl⟩))
 all_goals
  go_ret
  refine ⟨ret_b ?_, rfl⟩
  simp [*]
set_option maxHeartbeats 1000000 in
theorem refMay_any (kind : Int) (s : List UInt8) (w : World) (hs : s.length ≤ 1073741824) : Calls Tryz.prog 48 #[.int .i64 kind, .string (B s)] w fun e w' => e = .returned (.bool (mayB kind s)) ∧ w = w' := by
 have HN := Lib.hid (refIsName_any s · hs)
 have HC := Lib.hid refSafe_any
 by_cases h13 : kind = 1 ∨ kind = 3
 ·have HR := Lib.hid (show mayB kind s = isNameB s by unfold mayB; rw [if_pos (by simpa using h13)])
  rcases h13 with rfl | rfl
  all_goals
   go_enter Tryz.func48, Tryz.ntmps48
   go_wp2_with (go_at_call 20; refine (HN.out _).mono ?_; rintro e w' ⟨rfl, rfl⟩)
   go_ret
   exact ⟨by rw [HR.out]; rfl, rfl⟩
 have hm : mayB kind s = if kind == 2 || kind == 4 then wordB s else false := by unfold mayB; rw [if_neg (by simpa using h13)]
 have c1 : (kind == 1) = false := by simpa using fun e => h13 (.inl e)
 have c3 : (kind == 3) = false := by simpa using fun e => h13 (.inr e)
 by_cases h24 : kind = 2 ∨ kind = 4
 rotate_left
 ·have c2 : (kind != 2) = true := by simpa using fun e => h24 (.inl e)
  have c4 : (kind != 4) = true := by simpa using fun e => h24 (.inr e)
  have HR := Lib.hid (show mayB kind s = false by rw [hm, if_neg (by simpa using h24)])
  clear hm h13 h24
  go_enter Tryz.func48, Tryz.ntmps48
  go_wp2
  go_ret
  exact ⟨by rw [HR.out]; rfl, rfl⟩
 rw [if_pos (by simpa using h24)] at hm
 rcases Nat.eq_zero_or_pos s.length with h | h
 ·have : s = [] := List.eq_nil_of_length_eq_zero h
  subst this
  have HR := Lib.hid (show mayB kind [] = false by rw [hm]; rfl)
  clear hm h13
  rcases h24 with rfl | rfl
  all_goals
   go_enter Tryz.func48, Tryz.ntmps48
   go_wp2
   go_ret
   exact ⟨by rw [HR.out]; rfl, rfl⟩
 ·have hne : s.isEmpty = false := by cases s with
   | nil => simp at h
   | cons _ _ => rfl
  have HE := Lib.hid (show mayB kind s = s.all fun c => safeB c && !(c == 47) by rw [hm]; unfold wordB; rw [hne]; rfl)
  clear hm h13
  rcases h24 with rfl | rfl
  all_goals
   clear c1 c3
   go_enter Tryz.func48, Tryz.ntmps48
   go_wp2
   go_loopw [5] (fun i w' => ∃ k : Nat, k ≤ s.length ∧ i = .int .i64 k ∧ w = w' ∧ Hid ((s.take k).all (fun c => safeB c && !(c == 47)) = true)) (fun i _ => s.length - (intOf i).toNat)
   case atStart => exact ⟨0, by omega, rfl, rfl, rfl⟩
   case round =>
    obtain ⟨k, hk, rfl, rfl, HK⟩ := hrel
    by_cases hlt : k < s.length
    ·have k0 : (0 : Int) ≤ (k : Int) := by omega
     have k1 : (k : Int) < (s.length : Int) := by omega
     have HCK := Lib.hid (HC.out s[k])
     have HT := Lib.hid (show (s.take (k + 1)).all (fun c => safeB c && !(c == 47)) = (safeB s[k] && !(s[k] == 47)) by
      rw [List.take_succ_eq_append_getElem hlt, List.all_append, HK.out]
      simp)
     have HX := Lib.hid (show (safeB s[k] && !(s[k] == 47)) = false → s.all (fun c => safeB c && !(c == 47)) = false from fun e => by
      rw [List.all_eq_false]
      exact ⟨s[k], List.getElem_mem hlt, by rw [e]; simp⟩)
     cases hsf : safeB s[k] with
     | false =>
      rw [hsf] at HCK
      have HR := Lib.hid (HX.out (by rw [hsf]; rfl))
      clear hsf
      go_wp2_with (go_at_call 78; refine (HCK.out _).mono ?_; rintro e w' ⟨rfl, rfl⟩)
      go_ret
      exact ⟨by rw [HE.out, HR.out]; rfl, rfl⟩
     | true =>
      rw [hsf] at HCK
      by_cases hc : s[k] = 47
      ·have z1 := Pat.is_b (n := 47) rfl hc
       have HR := Lib.hid (HX.out (by rw [hc]; simp))
       clear hc hsf
       go_wp2_with (go_at_call 78; refine (HCK.out _).mono ?_; rintro e w' ⟨rfl, rfl⟩)
       go_ret
       exact ⟨by rw [HE.out, HR.out]; rfl, rfl⟩
      ·have z1 := Pat.not_b (n := 47) rfl hc
       rw [hsf, show (s[k] == 47) = false by simpa using hc] at HT
       clear hc hsf
       go_wp2_with (go_at_call 78; refine (HCK.out _).mono ?_; rintro e w' ⟨rfl, rfl⟩)
       go_roundw
       case rel => exact ⟨k + 1, by omega, by go_num, by trivial, by show _ = _; rw [HT.out]; rfl⟩
       case measure => simp [intOf]; omega
    ·have hk2 : k = s.length := by omega
     have HR : Hid (s.all (fun c => safeB c && !(c == 47)) = true) := by have := HK.out; rw [hk2, List.take_length] at this; exact this
     have d0 := no hlt
     clear hk2 hlt
     go_wp2
     go_ret
     exact ⟨by rw [HE.out, HR.out]; rfl, rfl⟩
end Go.Proofs.YtfmecpnokefokaaGreatDoor.Cls
