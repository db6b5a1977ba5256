/-
  The walks of layer 4 (class), on: names; of layer 19 (tables): May, and the reference's. Conditions: texts of at most 2^30 bytes.
-/
import Derived.Test.YtljinmfkogmmlaaDoorClass
namespace Go.Proofs.YtljinmfkogmmlaaDoor.Cls
open Go.ChangeShapes Go.WideShapes Go.Deep Go.RowKit
set_option maxRecDepth 100000
/-- How long the name is that begins at a place. -/
def nameN (s : List UInt8) (at_ : Nat) : Nat := if spanN letterB (s.drop at_) == 0 then 0 else spanN nameB (s.drop at_)
theorem name_any (s : List UInt8) (at_ : Nat) (w : World) (hs : s.length ≤ 1073741824) (ha : at_ ≤ s.length) : Calls Tryd.prog 81 #[.string (B s), .int .i64 at_] w fun e w' => e = .returned (.int .i64 (nameN s at_)) ∧ w = w' := by
  have HL := Lib.hid (span_letter s at_ · hs ha)
  have HN := Lib.hid (span_name s at_ · hs ha)
  unfold nameN
  generalize spanN letterB (s.drop at_) = a at *
  generalize spanN nameB (s.drop at_) = b at *
  by_cases h : a = 0
  · subst h
    go_enter Tryd.func81, Tryd.ntmps81
    go_wp2_with (go_at_call 69; (with_reducible refine (HL.out _).mono ?_); rintro e w' ⟨rfl, rfl⟩)
    go_ret
    exact ⟨rfl, rfl⟩
  · have h1 : ((a : Int) == 0) = false := by simpa using h
    have h2 : (a == 0) = false := by simpa using h
    go_enter Tryd.func81, Tryd.ntmps81
    go_wp2_with (first | (go_at_call 69; (with_reducible refine (HL.out _).mono ?_); rintro e w' ⟨rfl, rfl⟩) | (go_at_call 69; (with_reducible refine (HN.out _).mono ?_); rintro e w' ⟨rfl, rfl⟩))
    go_ret
    exact ⟨rfl, rfl⟩
theorem span_all (f : UInt8 → Bool) : ∀ l, (spanN f l == l.length) = l.all f
  | [] => rfl
  | c :: l => by
    have ih := span_all f l
    unfold spanN at *
    rw [List.takeWhile_cons, List.all_cons]
    cases hf : f c with
    | true =>
      rw [if_pos rfl, List.length_cons, List.length_cons, Bool.true_and, ← ih, Bool.eq_iff_iff]
      simp
    | false => simp
/-- A text is a name. -/
def isNameB (s : List UInt8) : Bool := letterB (s.getD 0 0) && s.all nameB
theorem isName_eq (s : List UInt8) (h : 0 < s.length) : (nameN s 0 == s.length) = isNameB s := by
  match s, h with
  | c :: r, _ =>
    unfold nameN isNameB
    rw [List.drop_zero]
    show _ = (letterB c && _)
    cases hc : letterB c with
    | true =>
      have h1 : (spanN letterB (c :: r) == 0) = false := by unfold spanN; rw [List.takeWhile_cons, if_pos hc]; simp
      rw [h1, if_neg (by simp), span_all]
      rfl
    | false =>
      have h1 : (spanN letterB (c :: r) == 0) = true := by unfold spanN; rw [List.takeWhile_cons, if_neg (by rw [hc]; simp)]; rfl
      rw [h1, if_pos rfl]
      simp
theorem nameB_eq (c : UInt8) : nameB c = (clsB c == 5 || clsB c == 6) := rfl
set_option maxHeartbeats 1000000 in
theorem refIsName_any (s : List UInt8) (w : World) (hs : s.length ≤ 1073741824) : Calls Tryd.prog 109 #[.string (B s)] w fun e w' => e = .returned (.bool (isNameB s)) ∧ w = w' := by
  have HC := Lib.hid refClass_any
  rcases Nat.eq_zero_or_pos s.length with h | h
  · have : s = [] := List.eq_nil_of_length_eq_zero h
    subst this
    go_enter Tryd.func109, Tryd.ntmps109
    go_wp2
    go_ret
    exact ⟨rfl, rfl⟩
  · have HC0 := Lib.hid (HC.out s[0])
    have hg : s.getD 0 0 = s[0] := by rw [List.getD_eq_getElem?_getD, List.getElem?_eq_getElem h]; rfl
    have HE := Lib.hid (show isNameB s = ((clsB s[0] == 5) && s.all nameB) by unfold isNameB; rw [hg]; rfl)
    have h0 : ((s.length : Int) == 0) = false := by rw [beq_eq_false_iff_ne]; omega
    have h1 : (0 : Int) < (s.length : Int) := by omega
    have HH := Lib.hid h
    have HN0 := Lib.hid (show clsB s[0] = 5 → (s.take 1).all nameB = true from fun e => by
      rw [List.take_succ_eq_append_getElem h]
      simp [nameB, letterB]
      exact .inl e)
    clear hg
    generalize clsB s[0] = q at *
    by_cases h5 : q = 5
    rotate_left
    · have h6 : (q == 5) = false := by simpa using h5
      have h7 : (q != 5) = true := by simpa using h5
      rw [h6, Bool.false_and] at HE
      clear h5
      go_enter Tryd.func109, Tryd.ntmps109
      go_wp2_with (go_at_call 44; refine (HC0.out _).mono ?_; rintro e w' ⟨rfl, rfl⟩)
      go_ret
      exact ⟨by rw [HE.out]; rfl, rfl⟩
    · subst h5
      have HE2 : Hid (isNameB s = s.all nameB) := HE.out
      go_enter Tryd.func109, Tryd.ntmps109
      go_wp2_with (go_at_call 44; refine (HC0.out _).mono ?_; rintro e w' ⟨rfl, rfl⟩)
      clear HC0 HE
      go_loopw [3] (fun i w' => ∃ k : Nat, k ≤ s.length ∧ i = .int .i64 k ∧ w = w' ∧ Hid ((s.take k).all nameB = true)) (fun i _ => s.length - (intOf i).toNat)
      case atStart => exact ⟨1, by omega, rfl, rfl, HN0.out trivial⟩
      case round =>
        clear HN0
        obtain ⟨k, hk, rfl, rfl, HK⟩ := hrel
        by_cases hlt : k < s.length
        · have k0 : (0 : Int) ≤ (k : Int) := by omega
          have k1 : (k : Int) < (s.length : Int) := by omega
          have HCK := Lib.hid (HC.out s[k])
          have HT := Lib.hid (show (s.take (k + 1)).all nameB = (clsB s[k] == 5 || clsB s[k] == 6) by
            rw [List.take_succ_eq_append_getElem hlt, List.all_append, HK.out]
            simp [nameB, letterB, digitB])
          have HX := Lib.hid (show (clsB s[k] == 5 || clsB s[k] == 6) = false → s.all nameB = false from fun e => by
            rw [List.all_eq_false]
            exact ⟨s[k], List.getElem_mem hlt, by rw [nameB_eq, e]; simp⟩)
          generalize clsB s[k] = q at *
          by_cases q5 : q = 5
          · subst q5
            go_wp2_with (go_at_call 44; refine (HCK.out _).mono ?_; rintro e w' ⟨rfl, rfl⟩)
            go_roundw
            case rel => exact ⟨k + 1, by omega, by go_num, by trivial, by show _ = _; rw [HT.out]; rfl⟩
            case measure => simp [intOf]; omega
          by_cases q6 : q = 6
          · subst q6
            go_wp2_with (go_at_call 44; refine (HCK.out _).mono ?_; rintro e w' ⟨rfl, rfl⟩)
            go_roundw
            case rel => exact ⟨k + 1, by omega, by go_num, by trivial, by show _ = _; rw [HT.out]; rfl⟩
            case measure => simp [intOf]; omega
          have z5 : (q != 5) = true := by simpa using q5
          have z6 : (q != 6) = true := by simpa using q6
          have HR := Lib.hid (HX.out (by simp [q5, q6]))
          clear q5 q6
          go_wp2_with (go_at_call 44; refine (HCK.out _).mono ?_; rintro e w' ⟨rfl, rfl⟩)
          go_ret
          exact ⟨by rw [HE2.out, HR.out]; rfl, rfl⟩
        · have hk2 : k = s.length := by omega
          have HR : Hid (s.all nameB = true) := by have := HK.out; rw [hk2, List.take_length] at this; exact this
          have d0 := no hlt
          clear hk2 hlt
          go_wp2
          go_ret
          exact ⟨by rw [HE2.out, HR.out]; rfl, rfl⟩
/-- A text that may name what isn't a variable. -/
def wordB (s : List UInt8) : Bool := !s.isEmpty && s.all fun c => safeB c && !(c == 47)
/-- Which names may be in which tables. -/
def mayB (kind : Int) (s : List UInt8) : Bool := if kind == 1 || kind == 3 then isNameB s else if kind == 2 || kind == 4 then wordB s else false
end Go.Proofs.YtljinmfkogmmlaaDoor.Cls
