/-
  The walks of layer 4 (class), on: names; of layer 19 (tables): May, and the reference's. Conditions: texts of at most 2^30 bytes.
-/
import Derived.Test.YtljinmfkogmmlaaGreatClass
namespace Go.Proofs.YtljinmfkogmmlaaGreat.Cls
open Go.ChangeShapes Go.WideShapes Go.Deep Go.RowKit
set_option maxRecDepth 100000
/-- How long the name is that begins at a place. -/
def nameN (s : List UInt8) (at_ : Nat) : Nat := if spanN letterB (s.drop at_) == 0 then 0 else spanN nameB (s.drop at_)
theorem name_any (s : List UInt8) (at_ : Nat) (w : World) (hs : s.length ≤ 1073741824) (ha : at_ ≤ s.length) : Calls Tryz.prog 107 #[.string (B s), .int .i64 at_] w fun e w' => e = .returned (.int .i64 (nameN s at_)) ∧ w = w' := by
  have HL := Lib.hid (span_letter s at_ · hs ha)
  have HN := Lib.hid (span_name s at_ · hs ha)
  unfold nameN
  generalize spanN letterB (s.drop at_) = a at *
  generalize spanN nameB (s.drop at_) = b at *
  by_cases h : a = 0
  · subst h
    go_enter Tryz.func107, Tryz.ntmps107
    go_wp2_with (go_at_call 87; (with_reducible refine (HL.out _).mono ?_); rintro e w' ⟨rfl, rfl⟩)
    go_ret
    exact ⟨rfl, rfl⟩
  · have h1 : ((a : Int) == 0) = false := by simpa using h
    have h2 : (a == 0) = false := by simpa using h
    go_enter Tryz.func107, Tryz.ntmps107
    go_wp2_with (first | (go_at_call 87; (with_reducible refine (HL.out _).mono ?_); rintro e w' ⟨rfl, rfl⟩) | (go_at_call 87; (with_reducible refine (HN.out _).mono ?_); rintro e w' ⟨rfl, rfl⟩))
    go_ret
    exact ⟨rfl, rfl⟩
theorem span_all (f : UInt8 → Bool) : ∀ l, (spanN f l == l.length) = l.all f
  | [] => rfl
  | c :: l => by
    have ih := span_all f l
    unfold spanN at *
    rw [List.takeWhile_cons, List.all_cons]
    cases hf : f c with
    | true =>
      rw [if_pos rfl, List.length_cons, List.length_cons, Bool.true_and, ← ih, Bool.eq_iff_iff]
      simp
    | false => simp
/-- A text is a name. -/
def isNameB (s : List UInt8) : Bool := letterB (s.getD 0 0) && s.all nameB
theorem isName_eq (s : List UInt8) (h : 0 < s.length) : (nameN s 0 == s.length) = isNameB s := by
  match s, h with
  | c :: r, _ =>
    unfold nameN isNameB
    rw [List.drop_zero]
    show _ = (letterB c && _)
    cases hc : letterB c with
    | true =>
      have h1 : (spanN letterB (c :: r) == 0) = false := by unfold spanN; rw [List.takeWhile_cons, if_pos hc]; simp
      rw [h1, if_neg (by simp), span_all]
      rfl
    | false =>
      have h1 : (spanN letterB (c :: r) == 0) = true := by unfold spanN; rw [List.takeWhile_cons, if_neg (by rw [hc]; simp)]; rfl
      rw [h1, if_pos rfl]
      simp
theorem isName_any (s : List UInt8) (w : World) (hs : s.length ≤ 1073741824) : Calls Tryz.prog 78 #[.string (B s)] w fun e w' => e = .returned (.bool (isNameB s)) ∧ w = w' := by
  have HN := Lib.hid fun w => name_any s 0 w hs (by omega)
  rcases Nat.eq_zero_or_pos s.length with h | h
  · have : s = [] := List.eq_nil_of_length_eq_zero h
    subst this
    go_enter Tryz.func78, Tryz.ntmps78
    go_wp2
    go_ret
    exact ⟨rfl, rfl⟩
  · have HE := Lib.hid (isName_eq s h)
    have hne : s.isEmpty = false := by cases s with
      | nil => simp at h
      | cons _ _ => rfl
    generalize nameN s 0 = a at *
    by_cases ha : a = s.length
    · have h1 : ((a : Int) == (s.length : Int)) = true := by rw [ha]; simp
      have HR := Lib.hid (show isNameB s = true by rw [← HE.out, ha]; simp)
      clear ha
      go_enter Tryz.func78, Tryz.ntmps78
      go_wp2_with (go_at_call 107; refine (HN.out _).mono ?_; rintro e w' ⟨rfl, rfl⟩)
      go_ret
      exact ⟨by rw [HR.out]; rfl, rfl⟩
    · have h1 : ((a : Int) == (s.length : Int)) = false := by rw [beq_eq_false_iff_ne]; omega
      have HR := Lib.hid (show isNameB s = false by rw [← HE.out]; simpa using ha)
      clear ha
      go_enter Tryz.func78, Tryz.ntmps78
      go_wp2_with (go_at_call 107; refine (HN.out _).mono ?_; rintro e w' ⟨rfl, rfl⟩)
      go_ret
      exact ⟨by rw [HR.out]; rfl, rfl⟩
/-- A text that may name what isn't a variable. -/
def wordB (s : List UInt8) : Bool := !s.isEmpty && s.all fun c => safeB c && !(c == 47)
set_option maxHeartbeats 1000000 in
theorem word_any (s : List UInt8) (w : World) (hs : s.length ≤ 1073741824) : Calls Tryz.prog 79 #[.string (B s)] w fun e w' => e = .returned (.bool (wordB s)) ∧ w = w' := by
  have HC := Lib.hid safe_any
  rcases Nat.eq_zero_or_pos s.length with h | h
  · have : s = [] := List.eq_nil_of_length_eq_zero h
    subst this
    go_enter Tryz.func79, Tryz.ntmps79
    go_wp2
    go_step3
    go_wp2
    rw [Exit.noGoto_ret]
    go_ret
    exact ⟨rfl, rfl⟩
  · have hne : s.isEmpty = false := by cases s with
      | nil => simp at h
      | cons _ _ => rfl
    have HE := Lib.hid (show wordB s = s.all fun c => safeB c && !(c == 47) by unfold wordB; rw [hne]; rfl)
    go_enter Tryz.func79, Tryz.ntmps79
    go_wp2
    go_step3
    go_wp2
    go_step3
    go_wp2
    go_loopw [8] (fun i w' => ∃ k : Nat, k ≤ s.length ∧ i = .int .i64 k ∧ w = w' ∧ Hid ((s.take k).all (fun c => safeB c && !(c == 47)) = true)) (fun i _ => s.length - (intOf i).toNat)
    case atStart => exact ⟨0, by omega, rfl, rfl, rfl⟩
    case round =>
      obtain ⟨k, hk, rfl, rfl, HK⟩ := hrel
      by_cases hlt : k < s.length
      · have k0 : (0 : Int) ≤ (k : Int) := by omega
        have k1 : (k : Int) < (s.length : Int) := by omega
        have HCK := Lib.hid (HC.out s[k])
        have HT := Lib.hid (show (s.take (k + 1)).all (fun c => safeB c && !(c == 47)) = (safeB s[k] && !(s[k] == 47)) by
          rw [List.take_succ_eq_append_getElem hlt, List.all_append, HK.out]
          simp)
        have HX := Lib.hid (show (safeB s[k] && !(s[k] == 47)) = false → s.all (fun c => safeB c && !(c == 47)) = false from fun e => by
          rw [List.all_eq_false]
          exact ⟨s[k], List.getElem_mem hlt, by rw [e]; simp⟩)
        cases hsf : safeB s[k] with
        | false =>
          rw [hsf] at HCK
          have HR := Lib.hid (HX.out (by rw [hsf]; rfl))
          clear hsf
          go_wp2_with (go_at_call 108; refine (HCK.out _).mono ?_; rintro e w' ⟨rfl, rfl⟩)
          rw [Exit.noGoto_ret]
          go_ret
          exact ⟨by rw [HE.out, HR.out]; rfl, rfl⟩
        | true =>
          rw [hsf] at HCK
          by_cases hc : s[k] = 47
          · have z1 := Pat.is_nb (n := 47) rfl hc
            have HR := Lib.hid (HX.out (by rw [hc]; simp))
            clear hc hsf
            go_wp2_with (go_at_call 108; refine (HCK.out _).mono ?_; rintro e w' ⟨rfl, rfl⟩)
            rw [Exit.noGoto_ret]
            go_ret
            exact ⟨by rw [HE.out, HR.out]; rfl, rfl⟩
          · have z1 := Pat.not_nb (n := 47) rfl hc
            rw [hsf, show (s[k] == 47) = false by simpa using hc] at HT
            clear hc hsf
            go_wp2_with (go_at_call 108; refine (HCK.out _).mono ?_; rintro e w' ⟨rfl, rfl⟩)
            go_roundw
            case rel => exact ⟨k + 1, by omega, by go_num, by trivial, by show _ = _; rw [HT.out]; rfl⟩
            case measure => simp [intOf]; omega
      · have hk2 : k = s.length := by omega
        have HR : Hid (s.all (fun c => safeB c && !(c == 47)) = true) := by have := HK.out; rw [hk2, List.take_length] at this; exact this
        have d0 := no hlt
        have d1 := no (show ¬ (k : Int) < (s.length : Int) by omega)
        clear hk2 hlt
        go_wp2
        rw [Exit.noGoto_ret]
        go_ret
        exact ⟨by rw [HE.out, HR.out]; rfl, rfl⟩
/-- Which names may be in which tables. -/
def mayB (kind : Int) (s : List UInt8) : Bool := if kind == 1 || kind == 3 then isNameB s else if kind == 2 || kind == 4 then wordB s else false
theorem may_any (kind : Int) (s : List UInt8) (w : World) (hs : s.length ≤ 1073741824) : Calls Tryz.prog 48 #[.int .i64 kind, .string (B s)] w fun e w' => e = .returned (.bool (mayB kind s)) ∧ w = w' := by
  have HN := Lib.hid (isName_any s · hs)
  have HW := Lib.hid (word_any s · hs)
  unfold mayB
  generalize isNameB s = a at *
  generalize wordB s = b at *
  go_enter Tryz.func48, Tryz.ntmps48
  go_wp2_with (first | (go_at_call 78; refine (HN.out _).mono ?_; rintro e w' ⟨rfl, rfl⟩) | (go_at_call 79; refine (HW.out _).mono ?_; rintro e w' ⟨rfl, rfl⟩))
  all_goals
    go_ret
    refine ⟨ret_b ?_, rfl⟩
    simp [*]
end Go.Proofs.YtljinmfkogmmlaaGreat.Cls
