/-
  The walks of layer 20, on: the law and the reference: awake, Light, May, Good. Conditions: rows and texts of at most 2^30.
-/
import Derived.Test.YtljinmfkogmmlaaGreatSpecD
namespace Go.Proofs.YtljinmfkogmmlaaGreat
open Go.ChangeShapes Go.WideShapes Go.Deep Go.RowKit
theorem one_at {α : Type} (s : List α) (j : Nat) (h : j < s.length) : (s.take (j + 1)).drop j = [s[j]] := by
  rw [List.take_succ_eq_append_getElem h, List.drop_append_of_le_length (by simp; omega)]
  simp
end Go.Proofs.YtljinmfkogmmlaaGreat
namespace Go.Proofs.YtljinmfkogmmlaaGreat.Pat
open Go.ChangeShapes Go.WideShapes Go.Deep Go.RowKit
set_option maxRecDepth 100000
theorem u8_ne {x y : UInt8} (h : ¬ x = y) : (((x.toNat : Nat) : Int) == ((y.toNat : Nat) : Int)) = false := by
  rw [beq_eq_false_iff_ne]
  intro e
  exact h (UInt8.toNat_inj.1 (by omega))
theorem in_any (b : UInt8) (s : List UInt8) (w : World) (hs : s.length ≤ 4294967296) : Calls Tryz.prog 80 #[.int .u8 b.toNat, .string (B s)] w fun e w' => e = .returned (.bool (s.contains b)) ∧ w = w' := by
  obtain ⟨r, hr⟩ : ∃ r, r = s.contains b := ⟨_, rfl⟩
  rw [← hr]
  have HRR := Lib.hid hr
  clear hr
  go_enter Tryz.func80, Tryz.ntmps80
  go_wp2
  go_loop [5] (fun i => ∃ k : Nat, k ≤ s.length ∧ i = .int .i64 k ∧ Hid ((s.take k).contains b = false)) (fun i => s.length - (intOf i).toNat)
  case atStart => exact ⟨0, by omega, rfl, rfl⟩
  case round =>
    obtain ⟨k, hk, rfl, HR⟩ := hrel
    by_cases hlt : k < s.length
    · have HT := Lib.hid (show s.take (k + 1) = s.take k ++ [s[k]] by rw [List.take_succ_eq_append_getElem hlt])
      have HM := Lib.hid (List.getElem_mem hlt)
      by_cases hx : s[k] = b
      · have HX := Lib.hid hx
        have hx' : ((s[k].toNat : Int) == (b.toNat : Int)) = true := by rw [hx]; simp
        clear hx
        go_wp2
        go_ret
        refine ⟨?_, rfl⟩
        have : s.contains b = true := by rw [List.contains_iff_mem, ← HX.out]; exact HM.out
        rw [HRR.out, this]; rfl
      · have hx' := u8_ne hx
        have HX := Lib.hid hx
        clear hx
        go_wp2
        go_round
        case rel => exact ⟨k + 1, by omega, by go_num, by
          show _ = false
          rw [HT.out, List.contains_append, HR.out, Bool.false_or]
          simpa using fun e => HX.out e.symm⟩
        case measure => simp [intOf]; omega
    · have hk' : k = s.length := by omega
      have h := HR.out
      rw [hk', List.take_length] at h
      have H := Lib.hid h
      clear h HR hk'
      go_wp2
      go_ret
      exact ⟨by rw [HRR.out, H.out]; rfl, rfl⟩
end Go.Proofs.YtljinmfkogmmlaaGreat.Pat
namespace Go.Proofs.YtljinmfkogmmlaaGreat.Cls
open Go.ChangeShapes Go.WideShapes Go.Deep Go.RowKit
set_option maxRecDepth 100000
def metaL : List UInt8 := [124, 38, 59, 60, 62, 40, 41]
def quoteL : List UInt8 := [92, 39, 34, 96, 36]
def letterL : List UInt8 := [65, 66, 67, 68, 69, 70, 71, 72, 73, 74, 75, 76, 77, 78, 79, 80, 81, 82, 83, 84, 85, 86, 87, 88, 89, 90, 97, 98, 99, 100, 101, 102, 103, 104, 105, 106, 107, 108, 109, 110, 111, 112, 113, 114, 115, 116, 117, 118, 119, 120, 121, 122, 95]
def digitL : List UInt8 := [48, 49, 50, 51, 52, 53, 54, 55, 56, 57]
def classR (c : UInt8) : Int :=
  if c = 32 ∨ c = 9 then 1 else if c = 10 then 2 else if metaL.contains c = true then 3 else if quoteL.contains c = true then 4 else if letterL.contains c = true then 5 else if digitL.contains c = true then 6 else 0
theorem classR_eq (c : UInt8) : classR c = clsB c := by
  have h : ∀ n : Fin 256, classR (UInt8.ofNat n.val) = clsB (UInt8.ofNat n.val) := by decide +kernel
  have := h ⟨c.toNat, c.toNat_lt⟩
  simpa using this
set_option maxHeartbeats 1000000 in
theorem refClass_any (c : UInt8) (w : World) : Calls Tryz.prog 49 #[.int .u8 c.toNat] w fun e w' => e = .returned (.int .i64 (clsB c)) ∧ w = w' := by
  rw [← classR_eq]
  have h1 := fun w => Pat.in_any c metaL w (by decide)
  have h2 := fun w => Pat.in_any c quoteL w (by decide)
  have h3 := fun w => Pat.in_any c letterL w (by decide)
  have h4 := fun w => Pat.in_any c digitL w (by decide)
  by_cases c1 : c = 32
  · have e1 := Pat.is_b (n := 32) rfl c1
    have HR := Lib.hid (show classR c = 1 by unfold classR; rw [if_pos (.inl c1)])
    clear c1 h1 h2 h3 h4
    go_enter Tryz.func49, Tryz.ntmps49
    go_wp2
    go_ret
    exact ⟨by rw [HR.out]; rfl, rfl⟩
  have e1 := Pat.not_b (n := 32) rfl c1
  by_cases c2 : c = 9
  · have e2 := Pat.is_b (n := 9) rfl c2
    have HR := Lib.hid (show classR c = 1 by unfold classR; rw [if_pos (.inr c2)])
    clear c1 c2 h1 h2 h3 h4
    go_enter Tryz.func49, Tryz.ntmps49
    go_wp2
    go_ret
    exact ⟨by rw [HR.out]; rfl, rfl⟩
  have e2 := Pat.not_b (n := 9) rfl c2
  have c12 : ¬ (c = 32 ∨ c = 9) := fun h => h.elim c1 c2
  by_cases c3 : c = 10
  · have e3 := Pat.is_b (n := 10) rfl c3
    have HR := Lib.hid (show classR c = 2 by unfold classR; rw [if_neg c12, if_pos c3])
    clear c1 c2 c3 c12 h1 h2 h3 h4
    go_enter Tryz.func49, Tryz.ntmps49
    go_wp2
    go_ret
    exact ⟨by rw [HR.out]; rfl, rfl⟩
  have e3 := Pat.not_b (n := 10) rfl c3
  have HR0 := Lib.hid (show classR c = if metaL.contains c = true then 3 else if quoteL.contains c = true then 4 else if letterL.contains c = true then 5 else if digitL.contains c = true then 6 else 0 by unfold classR; rw [if_neg c12, if_neg c3])
  clear c1 c2 c3 c12
  generalize metaL.contains c = b1 at *
  generalize quoteL.contains c = b2 at *
  generalize letterL.contains c = b3 at *
  generalize digitL.contains c = b4 at *
  have H1 := Lib.hid h1
  have H2 := Lib.hid h2
  have H3 := Lib.hid h3
  have H4 := Lib.hid h4
  clear h1 h2 h3 h4
  unfold metaL at H1
  unfold quoteL at H2
  unfold letterL at H3
  unfold digitL at H4
  rw [HR0.out]
  go_enter Tryz.func49, Tryz.ntmps49
  go_wp2_with (first
    | (go_at_call 80; (with_reducible refine (H1.out _).mono ?_); rintro e w' ⟨rfl, rfl⟩)
    | (go_at_call 80; (with_reducible refine (H2.out _).mono ?_); rintro e w' ⟨rfl, rfl⟩)
    | (go_at_call 80; (with_reducible refine (H3.out _).mono ?_); rintro e w' ⟨rfl, rfl⟩)
    | (go_at_call 80; (with_reducible refine (H4.out _).mono ?_); rintro e w' ⟨rfl, rfl⟩))
  all_goals
    go_ret
    refine ⟨?_, rfl⟩
    simp_all
theorem refSafe_any (c : UInt8) (w : World) : Calls Tryz.prog 55 #[.int .u8 c.toNat] w fun e w' => e = .returned (.bool (safeB c)) ∧ w = w' := by
  have HC := Lib.hid fun w => refClass_any c w
  have hs := fun w => Pat.in_any c safeL w (by decide)
  unfold safeB
  generalize safeL.contains c = b at *
  have HS := Lib.hid hs
  unfold safeL at HS
  clear hs
  generalize clsB c = k at *
  go_enter Tryz.func55, Tryz.ntmps55
  go_wp2_with (first | (go_at_call 49; refine (HC.out _).mono ?_; rintro e w' ⟨rfl, rfl⟩) | (go_at_call 80; refine (HS.out _).mono ?_; rintro e w' ⟨rfl, rfl⟩))
  all_goals
    go_ret
    refine ⟨ret_b ?_, rfl⟩
    first | rfl | (simp [*]; done) | (simp_all; done) | trace_state
end Go.Proofs.YtljinmfkogmmlaaGreat.Cls
namespace Go.Proofs.YtljinmfkogmmlaaGreat.Cls
open Go.ChangeShapes Go.WideShapes Go.Deep Go.RowKit
set_option maxRecDepth 100000
theorem nameB_eq (c : UInt8) : nameB c = (clsB c == 5 || clsB c == 6) := rfl
set_option maxHeartbeats 1000000 in
theorem refIsName_any (s : List UInt8) (w : World) (hs : s.length ≤ 1073741824) : Calls Tryz.prog 54 #[.string (B s)] w fun e w' => e = .returned (.bool (isNameB s)) ∧ w = w' := by
  have HC := Lib.hid refClass_any
  rcases Nat.eq_zero_or_pos s.length with h | h
  · have : s = [] := List.eq_nil_of_length_eq_zero h
    subst this
    go_enter Tryz.func54, Tryz.ntmps54
    go_wp2
    go_ret
    exact ⟨rfl, rfl⟩
  · have HC0 := Lib.hid (HC.out s[0])
    have hg : s.getD 0 0 = s[0] := by rw [List.getD_eq_getElem?_getD, List.getElem?_eq_getElem h]; rfl
    have HE := Lib.hid (show isNameB s = ((clsB s[0] == 5) && s.all nameB) by unfold isNameB; rw [hg]; rfl)
    have h0 : ((s.length : Int) == 0) = false := by rw [beq_eq_false_iff_ne]; omega
    have h1 : (0 : Int) < (s.length : Int) := by omega
    have HH := Lib.hid h
    have HN0 := Lib.hid (show clsB s[0] = 5 → (s.take 1).all nameB = true from fun e => by
      rw [List.take_succ_eq_append_getElem h]
      simp [nameB, letterB]
      exact .inl e)
    clear hg
    generalize clsB s[0] = q at *
    by_cases h5 : q = 5
    rotate_left
    · have h6 : (q == 5) = false := by simpa using h5
      have h7 : (q != 5) = true := by simpa using h5
      rw [h6, Bool.false_and] at HE
      clear h5
      go_enter Tryz.func54, Tryz.ntmps54
      go_wp2_with (go_at_call 49; refine (HC0.out _).mono ?_; rintro e w' ⟨rfl, rfl⟩)
      go_ret
      exact ⟨by rw [HE.out]; rfl, rfl⟩
    · subst h5
      have HE2 : Hid (isNameB s = s.all nameB) := HE.out
      go_enter Tryz.func54, Tryz.ntmps54
      go_wp2_with (go_at_call 49; refine (HC0.out _).mono ?_; rintro e w' ⟨rfl, rfl⟩)
      clear HC0 HE
      go_loopw [3] (fun i w' => ∃ k : Nat, k ≤ s.length ∧ i = .int .i64 k ∧ w = w' ∧ Hid ((s.take k).all nameB = true)) (fun i _ => s.length - (intOf i).toNat)
      case atStart => exact ⟨1, by omega, rfl, rfl, HN0.out trivial⟩
      case round =>
        clear HN0
        obtain ⟨k, hk, rfl, rfl, HK⟩ := hrel
        by_cases hlt : k < s.length
        · have k0 : (0 : Int) ≤ (k : Int) := by omega
          have k1 : (k : Int) < (s.length : Int) := by omega
          have HCK := Lib.hid (HC.out s[k])
          have HT := Lib.hid (show (s.take (k + 1)).all nameB = (clsB s[k] == 5 || clsB s[k] == 6) by
            rw [List.take_succ_eq_append_getElem hlt, List.all_append, HK.out]
            simp [nameB, letterB, digitB])
          have HX := Lib.hid (show (clsB s[k] == 5 || clsB s[k] == 6) = false → s.all nameB = false from fun e => by
            rw [List.all_eq_false]
            exact ⟨s[k], List.getElem_mem hlt, by rw [nameB_eq, e]; simp⟩)
          generalize clsB s[k] = q at *
          by_cases q5 : q = 5
          · subst q5
            go_wp2_with (go_at_call 49; refine (HCK.out _).mono ?_; rintro e w' ⟨rfl, rfl⟩)
            go_roundw
            case rel => exact ⟨k + 1, by omega, by go_num, by trivial, by show _ = _; rw [HT.out]; rfl⟩
            case measure => simp [intOf]; omega
          by_cases q6 : q = 6
          · subst q6
            go_wp2_with (go_at_call 49; refine (HCK.out _).mono ?_; rintro e w' ⟨rfl, rfl⟩)
            go_roundw
            case rel => exact ⟨k + 1, by omega, by go_num, by trivial, by show _ = _; rw [HT.out]; rfl⟩
            case measure => simp [intOf]; omega
          have z5 : (q != 5) = true := by simpa using q5
          have z6 : (q != 6) = true := by simpa using q6
          have HR := Lib.hid (HX.out (by simp [q5, q6]))
          clear q5 q6
          go_wp2_with (go_at_call 49; refine (HCK.out _).mono ?_; rintro e w' ⟨rfl, rfl⟩)
          go_ret
          exact ⟨by rw [HE2.out, HR.out]; rfl, rfl⟩
        · have hk2 : k = s.length := by omega
          have HR : Hid (s.all nameB = true) := by have := HK.out; rw [hk2, List.take_length] at this; exact this
          have d0 := no hlt
          clear hk2 hlt
          go_wp2
          go_ret
          exact ⟨by rw [HE2.out, HR.out]; rfl, rfl⟩
set_option maxHeartbeats 1000000 in
theorem refMay_any (kind : Int) (s : List UInt8) (w : World) (hs : s.length ≤ 1073741824) : Calls Tryz.prog 32 #[.int .i64 kind, .string (B s)] w fun e w' => e = .returned (.bool (mayB kind s)) ∧ w = w' := by
  have HN := Lib.hid (refIsName_any s · hs)
  have HC := Lib.hid refSafe_any
  by_cases h13 : kind = 1 ∨ kind = 3
  · have HR := Lib.hid (show mayB kind s = isNameB s by unfold mayB; rw [if_pos (by simpa using h13)])
    rcases h13 with rfl | rfl
    all_goals
      go_enter Tryz.func32, Tryz.ntmps32
      go_wp2_with (go_at_call 54; refine (HN.out _).mono ?_; rintro e w' ⟨rfl, rfl⟩)
      go_ret
      exact ⟨by rw [HR.out]; rfl, rfl⟩
  have hm : mayB kind s = if kind == 2 || kind == 4 then wordB s else false := by unfold mayB; rw [if_neg (by simpa using h13)]
  have c1 : (kind == 1) = false := by simpa using fun e => h13 (.inl e)
  have c3 : (kind == 3) = false := by simpa using fun e => h13 (.inr e)
  by_cases h24 : kind = 2 ∨ kind = 4
  rotate_left
  · have c2 : (kind != 2) = true := by simpa using fun e => h24 (.inl e)
    have c4 : (kind != 4) = true := by simpa using fun e => h24 (.inr e)
    have HR := Lib.hid (show mayB kind s = false by rw [hm, if_neg (by simpa using h24)])
    clear hm h13 h24
    go_enter Tryz.func32, Tryz.ntmps32
    go_wp2
    go_ret
    exact ⟨by rw [HR.out]; rfl, rfl⟩
  rw [if_pos (by simpa using h24)] at hm
  rcases Nat.eq_zero_or_pos s.length with h | h
  · have : s = [] := List.eq_nil_of_length_eq_zero h
    subst this
    have HR := Lib.hid (show mayB kind [] = false by rw [hm]; rfl)
    clear hm h13
    rcases h24 with rfl | rfl
    all_goals
      go_enter Tryz.func32, Tryz.ntmps32
      go_wp2
      go_ret
      exact ⟨by rw [HR.out]; rfl, rfl⟩
  · have hne : s.isEmpty = false := by cases s with
      | nil => simp at h
      | cons _ _ => rfl
    have HE := Lib.hid (show mayB kind s = s.all fun c => safeB c && !(c == 47) by rw [hm]; unfold wordB; rw [hne]; rfl)
    clear hm h13
    rcases h24 with rfl | rfl
    all_goals
      clear c1 c3
      go_enter Tryz.func32, Tryz.ntmps32
      go_wp2
      go_loopw [5] (fun i w' => ∃ k : Nat, k ≤ s.length ∧ i = .int .i64 k ∧ w = w' ∧ Hid ((s.take k).all (fun c => safeB c && !(c == 47)) = true)) (fun i _ => s.length - (intOf i).toNat)
      case atStart => exact ⟨0, by omega, rfl, rfl, rfl⟩
      case round =>
        obtain ⟨k, hk, rfl, rfl, HK⟩ := hrel
        by_cases hlt : k < s.length
        · have k0 : (0 : Int) ≤ (k : Int) := by omega
          have k1 : (k : Int) < (s.length : Int) := by omega
          have HCK := Lib.hid (HC.out s[k])
          have HT := Lib.hid (show (s.take (k + 1)).all (fun c => safeB c && !(c == 47)) = (safeB s[k] && !(s[k] == 47)) by
            rw [List.take_succ_eq_append_getElem hlt, List.all_append, HK.out]
            simp)
          have HX := Lib.hid (show (safeB s[k] && !(s[k] == 47)) = false → s.all (fun c => safeB c && !(c == 47)) = false from fun e => by
            rw [List.all_eq_false]
            exact ⟨s[k], List.getElem_mem hlt, by rw [e]; simp⟩)
          cases hsf : safeB s[k] with
          | false =>
            rw [hsf] at HCK
            have HR := Lib.hid (HX.out (by rw [hsf]; rfl))
            clear hsf
            go_wp2_with (go_at_call 55; refine (HCK.out _).mono ?_; rintro e w' ⟨rfl, rfl⟩)
            go_ret
            exact ⟨by rw [HE.out, HR.out]; rfl, rfl⟩
          | true =>
            rw [hsf] at HCK
            by_cases hc : s[k] = 47
            · have z1 := Pat.is_b (n := 47) rfl hc
              have HR := Lib.hid (HX.out (by rw [hc]; simp))
              clear hc hsf
              go_wp2_with (go_at_call 55; refine (HCK.out _).mono ?_; rintro e w' ⟨rfl, rfl⟩)
              go_ret
              exact ⟨by rw [HE.out, HR.out]; rfl, rfl⟩
            · have z1 := Pat.not_b (n := 47) rfl hc
              rw [hsf, show (s[k] == 47) = false by simpa using hc] at HT
              clear hc hsf
              go_wp2_with (go_at_call 55; refine (HCK.out _).mono ?_; rintro e w' ⟨rfl, rfl⟩)
              go_roundw
              case rel => exact ⟨k + 1, by omega, by go_num, by trivial, by show _ = _; rw [HT.out]; rfl⟩
              case measure => simp [intOf]; omega
        · have hk2 : k = s.length := by omega
          have HR : Hid (s.all (fun c => safeB c && !(c == 47)) = true) := by have := HK.out; rw [hk2, List.take_length] at this; exact this
          have d0 := no hlt
          clear hk2 hlt
          go_wp2
          go_ret
          exact ⟨by rw [HE.out, HR.out]; rfl, rfl⟩
end Go.Proofs.YtljinmfkogmmlaaGreat.Cls
/-
  The walks of layer 20's law and reference, in part: awake, Light, May. Conditions: names of at most 2^30 bytes.
-/
namespace Go.Proofs.YtljinmfkogmmlaaGreat.Spc
open Go.ChangeShapes Go.WideShapes Go.Deep Go.RowKit Mc Pa Quo Cls
set_option linter.unusedSimpArgs false
set_option linter.unusedVariables false
set_option maxRecDepth 100000
def awT : List UInt8 := [99, 111, 109, 112, 108, 101, 116, 101, 32, 45, 65, 32, 102, 105, 108, 101, 115, 32, 45, 88, 32, 39, 42, 46, 111, 39, 32, 99, 99]
theorem aw_split : splitL awT = ([[99, 111, 109, 112, 108, 101, 116, 101], [45, 65], [102, 105, 108, 101, 115], [45, 88], [42, 46, 111], [99, 99]], 0, 0) := by kernel_rfl
theorem aw_read : readL awT = ([99, 99], ⟨[1], [], [], [42, 46, 111], [], []⟩, 0) := by kernel_rfl
theorem awake20_any (w : World) : Calls Tryz.prog 7 #[] w fun e w' => e = .returned (.bool true) ∧ Below w.heap.size w w' := by
  have h := read_any awT w (by decide) (by rw [aw_split]; decide)
  rw [aw_read] at h
  have HR := Lib.hid h
  clear h
  unfold ReadP at HR
  go_enter Tryz.func7, Tryz.ntmps7
  go_wp2_with (go_at_call 8; refine HR.out.mono ?_; rintro e w2 ⟨va, vw, rfl, ha, hw, hb⟩; obtain ⟨Aa, ca, rfl, -⟩ := ha.form0; obtain ⟨Aw, cw, rfl, -⟩ := hw.form0; have HB := Lib.hid hb; clear ha hw hb)
  go_ret
  exact ⟨rfl, below_alloc HB.out _⟩
set_option maxHeartbeats 1000000 in
theorem rMay_any (n : List UInt8) (w : World) (hn : n.length ≤ 1073741824) : Calls Tryz.prog 12 #[.string (B n)] w fun e w' => e = .returned (.bool (spMay n)) ∧ w = w' := by
  have HM := Lib.hid (refMay_any 4 n w hn)
  have HQ := Lib.hid (show spMay n = (decide (n = [45, 68]) || decide (n = [45, 69]) || (mayB 4 n && decide (n.headD 45 ≠ 45))) from rfl)
  by_cases h1 : n = [45, 68]
  · have e1 : (n == [45, 68]) = true := by rw [h1]; rfl
    rw [decide_eq_true h1] at HQ
    clear h1
    go_enter Tryz.func12, Tryz.ntmps12
    go_wp2
    go_ret
    exact ⟨by rw [HQ.out]; rfl, rfl⟩
  by_cases h2 : n = [45, 69]
  · have e1 : (n == [45, 68]) = false := by simpa using h1
    have e2 : (n == [45, 69]) = true := by rw [h2]; rfl
    rw [decide_eq_false h1, decide_eq_true h2] at HQ
    clear h1 h2
    go_enter Tryz.func12, Tryz.ntmps12
    go_wp2
    go_ret
    exact ⟨by rw [HQ.out]; rfl, rfl⟩
  have e1 : (n == [45, 68]) = false := by simpa using h1
  have e2 : (n == [45, 69]) = false := by simpa using h2
  rw [decide_eq_false h1, decide_eq_false h2] at HQ
  clear h1 h2
  cases hm : mayB 4 n with
  | false =>
    rw [hm] at HM HQ
    clear hm
    go_enter Tryz.func12, Tryz.ntmps12
    go_wp2_with (go_at_call 32; refine (HM.out).mono ?_; rintro e w' ⟨rfl, rfl⟩)
    go_ret
    exact ⟨by rw [HQ.out]; rfl, rfl⟩
  | true =>
    cases n with
    | nil => rw [mayB_nil] at hm; cases hm
    | cons c r =>
      rw [hm] at HM HQ
      clear hm
      rw [List.headD_cons] at HQ
      go_enter Tryz.func12, Tryz.ntmps12
      go_wp2_with (go_at_call 32; refine (HM.out).mono ?_; rintro e w' ⟨rfl, rfl⟩)
      go_ret
      refine ⟨?_, rfl⟩
      rw [HQ.out]
      exact congrArg Ending.returned (congrArg Value.bool (c45 c))
end Go.Proofs.YtljinmfkogmmlaaGreat.Spc
/-
  The walks of layer 20's law and reference, on: Light, Good. Conditions: rows and texts of at most 2^30. (Printed by gen_spcm.py.)
-/
namespace Go.Proofs.YtljinmfkogmmlaaGreat.Spc
open Go.ChangeShapes Go.WideShapes Go.Deep Go.RowKit Mc Pa Quo Cls
set_option linter.unusedSimpArgs false
set_option linter.unusedVariables false
set_option maxRecDepth 100000
/-- No text but such of at most m bytes. -/
def shortB (m : Nat) (t : List UInt8) : Bool := decide (t.length ≤ m)
/-- Are a spec's texts and rows small? -/
def lightB (x : Sp) : Bool := decide (x.a.length ≤ 20) && decide (x.w.length ≤ 20) && shortB 60 x.g && shortB 60 x.x && shortB 60 x.p && shortB 60 x.s && x.w.all (shortB 60)
theorem all_take {ts : List (List UInt8)} {k : Nat} {t : List UInt8} (q : List UInt8 → Bool) (h : ts[k]? = some t) : (ts.take (k + 1)).all q = ((ts.take k).all q && q t) := by
  rw [List.take_add_one, h, List.all_append]; simp
theorem all_no {ts : List (List UInt8)} {k : Nat} (q : List UInt8 → Bool) (h : (ts.take k).all q = false) : ts.all q = false := by
  rw [← List.take_append_drop k ts, List.all_append, h]; rfl
set_option maxHeartbeats 2000000 in
theorem light_any (va vw : Value) (x : Sp) (w : World) (ha : Sl w numC 1 va x.a) (hw : Sl w strC 1 vw x.w) (hla : x.a.length ≤ 9223372036854775807) (hlw : x.w.length ≤ 9223372036854775807) :
    Calls Tryz.prog 11 #[spV va vw x] w fun e w' => e = .returned (.bool (lightB x)) ∧ Below w.heap.size w w' := by
  have HQ := Lib.hid (show lightB x = (decide (x.a.length ≤ 20) && decide (x.w.length ≤ 20) && shortB 60 x.g && shortB 60 x.x && shortB 60 x.p && shortB 60 x.s && x.w.all (shortB 60)) from rfl)
  obtain ⟨Aa, ca, rfl, _⟩ := ha
  obtain ⟨Aw, cw, rfl, hc1, hc2, hn, hA⟩ := hw
  have HA := Lib.hid hA
  clear hA hn
  by_cases h0 : x.a.length ≤ 20
  case neg =>
    have n0 : (20 : Int) < (x.a.length : Int) := by omega
    rw [decide_eq_false h0] at HQ
    clear h0
    go_enter Tryz.func11, Tryz.ntmps11
    go_wp2
    go_ret
    exact ⟨by rw [HQ.out]; simp, by (repeat (first | exact Below.refl _ _ | assumption | with_reducible refine below_alloc ?_ _ | with_reducible refine below_grow ?_ _ | with_reducible refine below_drewN ?_ _ | with_reducible refine below_drew ?_ | with_reducible refine below_setCell ?_ (by first | (dsimp only; omega) | (simp; done) | (simp; omega)) _))⟩
  have n0 : ¬ (20 : Int) < (x.a.length : Int) := by omega
  rw [decide_eq_true h0] at HQ
  clear h0
  by_cases h1 : x.w.length ≤ 20
  case neg =>
    have n1 : (20 : Int) < (x.w.length : Int) := by omega
    rw [decide_eq_false h1] at HQ
    clear h1
    go_enter Tryz.func11, Tryz.ntmps11
    go_wp2
    go_ret
    exact ⟨by rw [HQ.out]; simp, by (repeat (first | exact Below.refl _ _ | assumption | with_reducible refine below_alloc ?_ _ | with_reducible refine below_grow ?_ _ | with_reducible refine below_drewN ?_ _ | with_reducible refine below_drew ?_ | with_reducible refine below_setCell ?_ (by first | (dsimp only; omega) | (simp; done) | (simp; omega)) _))⟩
  have n1 : ¬ (20 : Int) < (x.w.length : Int) := by omega
  rw [decide_eq_true h1] at HQ
  clear h1
  by_cases h2 : x.g.length ≤ 60
  case neg =>
    have n2 : (60 : Int) < (x.g.length : Int) := by omega
    rw [(show shortB 60 x.g = false from decide_eq_false h2)] at HQ
    clear h2
    go_enter Tryz.func11, Tryz.ntmps11
    go_wp2
    go_ret
    exact ⟨by rw [HQ.out]; simp, by (repeat (first | exact Below.refl _ _ | assumption | with_reducible refine below_alloc ?_ _ | with_reducible refine below_grow ?_ _ | with_reducible refine below_drewN ?_ _ | with_reducible refine below_drew ?_ | with_reducible refine below_setCell ?_ (by first | (dsimp only; omega) | (simp; done) | (simp; omega)) _))⟩
  have n2 : ¬ (60 : Int) < (x.g.length : Int) := by omega
  rw [(show shortB 60 x.g = true from decide_eq_true h2)] at HQ
  clear h2
  by_cases h3 : x.x.length ≤ 60
  case neg =>
    have n3 : (60 : Int) < (x.x.length : Int) := by omega
    rw [(show shortB 60 x.x = false from decide_eq_false h3)] at HQ
    clear h3
    go_enter Tryz.func11, Tryz.ntmps11
    go_wp2
    go_ret
    exact ⟨by rw [HQ.out]; simp, by (repeat (first | exact Below.refl _ _ | assumption | with_reducible refine below_alloc ?_ _ | with_reducible refine below_grow ?_ _ | with_reducible refine below_drewN ?_ _ | with_reducible refine below_drew ?_ | with_reducible refine below_setCell ?_ (by first | (dsimp only; omega) | (simp; done) | (simp; omega)) _))⟩
  have n3 : ¬ (60 : Int) < (x.x.length : Int) := by omega
  rw [(show shortB 60 x.x = true from decide_eq_true h3)] at HQ
  clear h3
  by_cases h4 : x.p.length ≤ 60
  case neg =>
    have n4 : (60 : Int) < (x.p.length : Int) := by omega
    rw [(show shortB 60 x.p = false from decide_eq_false h4)] at HQ
    clear h4
    go_enter Tryz.func11, Tryz.ntmps11
    go_wp2
    go_ret
    exact ⟨by rw [HQ.out]; simp, by (repeat (first | exact Below.refl _ _ | assumption | with_reducible refine below_alloc ?_ _ | with_reducible refine below_grow ?_ _ | with_reducible refine below_drewN ?_ _ | with_reducible refine below_drew ?_ | with_reducible refine below_setCell ?_ (by first | (dsimp only; omega) | (simp; done) | (simp; omega)) _))⟩
  have n4 : ¬ (60 : Int) < (x.p.length : Int) := by omega
  rw [(show shortB 60 x.p = true from decide_eq_true h4)] at HQ
  clear h4
  by_cases h5 : x.s.length ≤ 60
  case neg =>
    have n5 : (60 : Int) < (x.s.length : Int) := by omega
    rw [(show shortB 60 x.s = false from decide_eq_false h5)] at HQ
    clear h5
    go_enter Tryz.func11, Tryz.ntmps11
    go_wp2
    go_ret
    exact ⟨by rw [HQ.out]; simp, by (repeat (first | exact Below.refl _ _ | assumption | with_reducible refine below_alloc ?_ _ | with_reducible refine below_grow ?_ _ | with_reducible refine below_drewN ?_ _ | with_reducible refine below_drew ?_ | with_reducible refine below_setCell ?_ (by first | (dsimp only; omega) | (simp; done) | (simp; omega)) _))⟩
  have n5 : ¬ (60 : Int) < (x.s.length : Int) := by omega
  rw [(show shortB 60 x.s = true from decide_eq_true h5)] at HQ
  clear h5
  go_enter Tryz.func11, Tryz.ntmps11
  go_wp2
  have HB := Lib.hid (BoxN.new w [.slice Aa x.a.length ca, .slice Aw x.w.length cw, .string (B x.g), .string (B x.x), .string (B x.p), .string (B x.s)] 26)
  have HBE := Lib.hid (below_alloc (Below.refl w.heap.size w) (.cells #[.slice Aa x.a.length ca, .slice Aw x.w.length cw, .string (B x.g), .string (B x.x), .string (B x.p), .string (B x.s)] 26))
  generalize hW : w.alloc _ = W at *
  have HW := Lib.hid hW
  clear hW
  have c1 := HB.out.c 1 _ rfl
  go_loopw [3] (fun v3 wr => ∃ k : Nat, k ≤ x.w.length ∧ v3 = .int .i64 k ∧ Hid ((x.w.take k).all (shortB 60) = true) ∧ W = wr) (fun i _ => x.w.length - (intOf i).toNat)
  case atStart => exact ⟨0, by omega, rfl, Lib.hid rfl, rfl⟩
  case round =>
    obtain ⟨k, hk, rfl, HR, rfl⟩ := hrel
    have k0 : (0 : Int) ≤ (k : Int) := by omega
    by_cases hlt : k < x.w.length
    · have k1 : (k : Int) < (x.w.length : Int) := by omega
      obtain ⟨b, off, rfl, hb, hcl⟩ := HA.out (by omega)
      obtain ⟨t, ht⟩ : ∃ t, x.w[k]? = some t := ⟨_, List.getElem?_eq_getElem hlt⟩
      have hc : W.cell? ⟨b, off + k, none⟩ = some (.string (B t)) := by
        have := (HBE.out.cell (p := ⟨b, off + k * 1 + 0, none⟩) hb).trans (hcl k _ ht 0 _ rfl)
        simpa using this
      have HT := Lib.hid (all_take (shortB 60) ht)
      rw [HR.out, Bool.true_and] at HT
      clear hcl ht
      by_cases hs : t.length ≤ 60
      · have n9 : ¬ (60 : Int) < (t.length : Int) := by omega
        rw [show shortB 60 t = true from decide_eq_true hs] at HT
        clear hs
        go_wp2
        exact ⟨⟨k + 1, by omega, by go_num, HT, trivial⟩, by simp [intOf]; omega⟩
      · have n9 : (60 : Int) < (t.length : Int) := by omega
        rw [show shortB 60 t = false from decide_eq_false hs] at HT
        have HN := Lib.hid (all_no (shortB 60) HT.out)
        clear hs
        go_wp2
        go_ret
        exact ⟨by rw [HQ.out, HN.out]; simp, HBE.out⟩
    · have hr := HR.out
      rw [show k = x.w.length by omega, List.take_length] at hr
      have HR2 := Lib.hid hr
      have k1 : ¬ (k : Int) < (x.w.length : Int) := by omega
      clear hr
      go_wp2
      go_ret
      exact ⟨by rw [HQ.out, HR2.out]; rfl, HBE.out⟩
theorem rises_last {z : Int} {l : List Int} (h : risesB z l = true) : z ≤ lastOf z l := by
  induction l generalizing z with
  | nil => exact Int.le_refl _
  | cons a r ih =>
    rw [risesB] at h
    split at h
    · cases h
    split at h
    · cases h
    rename_i h1 h2
    have h3 := ih h
    have : lastOf z (a :: r) = lastOf a r := by
      unfold lastOf
      cases r with
      | nil => rfl
      | cons b t => rw [List.getLast?_cons_cons, List.getLast?_eq_some_getLast (List.cons_ne_nil b t)]; rfl
    rw [this]
    omega
theorem good_short (x : Sp) : goodB x = (risesB 0 x.a && (decide (x.w.length ≤ 1000) && shortB 1000 x.g && shortB 1000 x.x && shortB 1000 x.p && shortB 1000 x.s && x.w.all (shortB 1000))) := by
  have h1 : ∀ t, longB t = !shortB 1000 t := fun t => by
    unfold longB shortB
    by_cases h : t.length ≤ 1000
    · rw [decide_eq_true h, decide_eq_false (by omega)]; rfl
    · rw [decide_eq_false h, decide_eq_true (by omega)]; rfl
  have h2 : x.w.any longB = !x.w.all (shortB 1000) := by
    generalize x.w = l
    induction l with
    | nil => rfl
    | cons a r ih => rw [List.any_cons, List.all_cons, ih, h1]; cases shortB 1000 a <;> rfl
  unfold goodB
  rw [h2]
  simp only [List.any_cons, List.any_nil, h1]
  cases risesB 0 x.a <;> cases decide (x.w.length ≤ 1000) <;> cases x.w.all (shortB 1000) <;> cases shortB 1000 x.g <;> cases shortB 1000 x.x <;> cases shortB 1000 x.p <;> cases shortB 1000 x.s <;> rfl
set_option maxHeartbeats 4000000 in
theorem rGood_any (va vw : Value) (x : Sp) (w : World) (ha : Sl w numC 1 va x.a) (hw : Sl w strC 1 vw x.w) (hla : x.a.length ≤ 1073741824) (hlw : x.w.length ≤ 1073741824) :
    Calls Tryz.prog 13 #[spV va vw x] w fun e w' => e = .returned (.bool (goodB x)) ∧ Below w.heap.size w w' := by
  have HQ := Lib.hid (good_short x)
  obtain ⟨Aa, ca, rfl, ha1, ha2, ha3, hAA⟩ := ha
  obtain ⟨Aw, cw, rfl, hc1, hc2, hn, hA⟩ := hw
  have HA := Lib.hid hA
  have HAA := Lib.hid hAA
  clear hA hn hAA ha3
  go_enter Tryz.func13, Tryz.ntmps13
  go_wp2
  have HB := Lib.hid (BoxN.new w [.slice Aa x.a.length ca, .slice Aw x.w.length cw, .string (B x.g), .string (B x.x), .string (B x.p), .string (B x.s)] 26)
  have HBE := Lib.hid (below_alloc (Below.refl w.heap.size w) (.cells #[.slice Aa x.a.length ca, .slice Aw x.w.length cw, .string (B x.g), .string (B x.x), .string (B x.p), .string (B x.s)] 26))
  generalize hW : w.alloc _ = W at *
  have HW := Lib.hid hW
  clear hW
  go_loopw [3] (fun v3 wr => ∃ k : Nat, k ≤ x.a.length ∧ v3 = .int .i64 k ∧ Hid (risesB 0 (x.a.take k) = true) ∧ Hid (Below W.heap.size W wr)) (fun i _ => x.a.length - (intOf i).toNat)
  case atStart => exact ⟨0, by omega, rfl, Lib.hid rfl, Lib.hid (Below.refl _ _)⟩
  case round =>
    obtain ⟨k, hk, rfl, HR, HBW⟩ := hrel
    have HB1 := Lib.hid (HB.out.below HBW.out)
    obtain ⟨⟨c0, c1, c2, c3, c4, c5⟩, -⟩ := box6 HB1.out
    haveI : Old wr w.heap.size := ⟨HB1.out.lt⟩
    have HBZ := Lib.hid (below_then HBE.out HBW.out)
    have k0 : (0 : Int) ≤ (k : Int) := by omega
    by_cases hlt : k < x.a.length
    · have k1 : (k : Int) < (x.a.length : Int) := by omega
      obtain ⟨b, off, rfl, hb, hcl⟩ := HAA.out (by omega)
      haveI : Old wr b := ⟨Nat.lt_of_lt_of_le hb HBZ.out.size⟩
      have hcell : ∀ j (hj : j < x.a.length), wr.cell? ⟨b, off + j, none⟩ = some (.int .i64 x.a[j]) := fun j hj => by
        have := (HBZ.out.cell (p := ⟨b, off + j * 1 + 0, none⟩) hb).trans (hcl j _ (List.getElem?_eq_getElem hj) 0 _ rfl)
        simpa using this
      have hc := hcell k hlt
      have HC := Lib.hid hcell
      have HT := Lib.hid (rises_take x.a 0 k hlt)
      rw [HR.out, Bool.true_and] at HT
      have HL := Lib.hid (rises_last HR.out)
      obtain ⟨y, hy⟩ : ∃ y, x.a[k] = y := ⟨_, rfl⟩
      rw [hy] at hc HT
      clear hcl hcell
      by_cases h1 : y < 1
      · have HN := Lib.hid (rises_no x.a 0 (k + 1) (by rw [HT.out, decide_eq_true (by have := HL.out; omega)]; rfl))
        have d1 := yes h1
        clear hy h1
        go_wp2
        go_quiet (fail)
        go_wp2
        go_ret
        exact ⟨by rw [HQ.out, HN.out]; rfl, by have := HBZ.out; (repeat (first | exact Below.refl _ _ | assumption | with_reducible refine below_alloc ?_ _ | with_reducible refine below_grow ?_ _ | with_reducible refine below_drewN ?_ _ | with_reducible refine below_drew ?_ | with_reducible refine below_setCell ?_ (by first | (dsimp only; omega) | (simp; done) | (simp; omega)) _))⟩
      by_cases h2 : 7 < y
      · have HN := Lib.hid (rises_no x.a 0 (k + 1) (by rw [HT.out, decide_eq_true h2]; simp))
        have d1 := no h1
        have d2 := yes h2
        clear hy h1 h2
        go_wp2
        go_quiet (fail)
        go_wp2
        go_ret
        exact ⟨by rw [HQ.out, HN.out]; rfl, by have := HBZ.out; (repeat (first | exact Below.refl _ _ | assumption | with_reducible refine below_alloc ?_ _ | with_reducible refine below_grow ?_ _ | with_reducible refine below_drewN ?_ _ | with_reducible refine below_drew ?_ | with_reducible refine below_setCell ?_ (by first | (dsimp only; omega) | (simp; done) | (simp; omega)) _))⟩
      have d1 := no h1
      have d2 := no h2
      rw [decide_eq_false h2] at HT
      by_cases h0 : k = 0
      · subst h0
        have HN := Lib.hid (show risesB 0 (x.a.take (0 + 1)) = true by rw [HT.out, decide_eq_false (by show ¬ y ≤ 0; omega)]; rfl)
        rw [Nat.add_zero] at hc
        clear hy h1 h2
        go_wp2
        go_quiet (fail)
        go_wp2
        exact ⟨⟨1, by omega, rfl, HN, Lib.hid (by have := HBW.out; (repeat (first | exact Below.refl _ _ | assumption | with_reducible refine below_alloc ?_ _ | with_reducible refine below_grow ?_ _ | with_reducible refine below_drewN ?_ _ | with_reducible refine below_drew ?_ | with_reducible refine below_setCell ?_ (by first | (dsimp only; omega) | (simp; done) | (simp; omega)) _)))⟩, by simp [intOf]; omega⟩
      · obtain ⟨j, rfl⟩ : ∃ j, k = j + 1 := ⟨k - 1, by omega⟩
        have hp := HC.out j (by omega)
        have HLS := Lib.hid (last_snoc 0 x.a j (by omega))
        obtain ⟨u, hu⟩ : ∃ u, x.a[j] = u := ⟨_, rfl⟩
        rw [hu] at hp HLS
        rw [HLS.out] at HT
        have d0 := yes (show (0 : Int) < (j : Int) + 1 by omega)
        have q0 : (0 : Int) ≤ (j : Int) + 1 := by omega
        have q1 : (j : Int) + 1 < (x.a.length : Int) := by omega
        have q2 : j + 1 < x.a.length := hlt
        have q3 : j < x.a.length := by omega
        have j0 : (0 : Int) ≤ (j : Int) := by omega
        have j1 : (j : Int) < (x.a.length : Int) := by omega
        clear h0 hy hu k0 k1 hlt
        by_cases h3 : y ≤ u
        · have d4 := yes h3
          rw [decide_eq_true h3] at HT
          have HN := Lib.hid (rises_no x.a 0 (j + 1 + 1) (by rw [HT.out]; rfl))
          clear h3 h1 h2
          go_wp2
          go_quiet (fail)
          go_wp2
          go_ret
          exact ⟨by rw [HQ.out, HN.out]; rfl, by have := HBZ.out; (repeat (first | exact Below.refl _ _ | assumption | with_reducible refine below_alloc ?_ _ | with_reducible refine below_grow ?_ _ | with_reducible refine below_drewN ?_ _ | with_reducible refine below_drew ?_ | with_reducible refine below_setCell ?_ (by first | (dsimp only; omega) | (simp; done) | (simp; omega)) _))⟩
        · have d4 := no h3
          rw [decide_eq_false h3] at HT
          clear h3 h1 h2
          go_wp2
          go_quiet (fail)
          go_wp2
          have HN2 := Lib.hid (show risesB 0 (x.a.take (j + 1 + 1)) = true by rw [HT.out]; rfl)
          exact ⟨⟨j + 1 + 1, by omega, by go_num, HN2, Lib.hid (by have := HBW.out; (repeat (first | exact Below.refl _ _ | assumption | with_reducible refine below_alloc ?_ _ | with_reducible refine below_grow ?_ _ | with_reducible refine below_drewN ?_ _ | with_reducible refine below_drew ?_ | with_reducible refine below_setCell ?_ (by first | (dsimp only; omega) | (simp; done) | (simp; omega)) _)))⟩, by simp [intOf]; omega⟩
    · have hr := HR.out
      rw [show k = x.a.length by omega, List.take_length] at hr
      have k1 : ¬ (k : Int) < (x.a.length : Int) := by omega
      rw [hr, Bool.true_and] at HQ
      clear hr HR hlt
      by_cases h0 : x.w.length ≤ 1000
      case neg =>
        have n0 : (1000 : Int) < (x.w.length : Int) := by omega
        rw [decide_eq_false h0] at HQ
        clear h0
        go_wp2
        go_ret
        exact ⟨by rw [HQ.out]; simp, HBZ.out⟩
      have n0 : ¬ (1000 : Int) < (x.w.length : Int) := by omega
      rw [decide_eq_true h0] at HQ
      clear h0
      by_cases h1 : x.g.length ≤ 1000
      case neg =>
        have n1 : (1000 : Int) < (x.g.length : Int) := by omega
        rw [(show shortB 1000 x.g = false from decide_eq_false h1)] at HQ
        clear h1
        go_wp2
        go_ret
        exact ⟨by rw [HQ.out]; simp, HBZ.out⟩
      have n1 : ¬ (1000 : Int) < (x.g.length : Int) := by omega
      rw [(show shortB 1000 x.g = true from decide_eq_true h1)] at HQ
      clear h1
      by_cases h2 : x.x.length ≤ 1000
      case neg =>
        have n2 : (1000 : Int) < (x.x.length : Int) := by omega
        rw [(show shortB 1000 x.x = false from decide_eq_false h2)] at HQ
        clear h2
        go_wp2
        go_ret
        exact ⟨by rw [HQ.out]; simp, HBZ.out⟩
      have n2 : ¬ (1000 : Int) < (x.x.length : Int) := by omega
      rw [(show shortB 1000 x.x = true from decide_eq_true h2)] at HQ
      clear h2
      by_cases h3 : x.p.length ≤ 1000
      case neg =>
        have n3 : (1000 : Int) < (x.p.length : Int) := by omega
        rw [(show shortB 1000 x.p = false from decide_eq_false h3)] at HQ
        clear h3
        go_wp2
        go_ret
        exact ⟨by rw [HQ.out]; simp, HBZ.out⟩
      have n3 : ¬ (1000 : Int) < (x.p.length : Int) := by omega
      rw [(show shortB 1000 x.p = true from decide_eq_true h3)] at HQ
      clear h3
      by_cases h4 : x.s.length ≤ 1000
      case neg =>
        have n4 : (1000 : Int) < (x.s.length : Int) := by omega
        rw [(show shortB 1000 x.s = false from decide_eq_false h4)] at HQ
        clear h4
        go_wp2
        go_ret
        exact ⟨by rw [HQ.out]; simp, HBZ.out⟩
      have n4 : ¬ (1000 : Int) < (x.s.length : Int) := by omega
      rw [(show shortB 1000 x.s = true from decide_eq_true h4)] at HQ
      clear h4
      go_wp2
      obtain ⟨W1, rfl⟩ : ∃ W1, W1 = wr := ⟨_, rfl⟩
      go_loopw [4] (fun v3 wr => ∃ k : Nat, k ≤ x.w.length ∧ v3 = .int .i64 k ∧ Hid ((x.w.take k).all (shortB 1000) = true) ∧ W1 = wr) (fun i _ => x.w.length - (intOf i).toNat)
      case atStart => exact ⟨0, by omega, rfl, Lib.hid rfl, rfl⟩
      case round =>
        obtain ⟨k, hk, rfl, HR, rfl⟩ := hrel
        have k0 : (0 : Int) ≤ (k : Int) := by omega
        by_cases hlt : k < x.w.length
        · have k1 : (k : Int) < (x.w.length : Int) := by omega
          obtain ⟨b, off, rfl, hb, hcl⟩ := HA.out (by omega)
          obtain ⟨t, ht⟩ : ∃ t, x.w[k]? = some t := ⟨_, List.getElem?_eq_getElem hlt⟩
          have hc : W1.cell? ⟨b, off + k, none⟩ = some (.string (B t)) := by
            have := (HBZ.out.cell (p := ⟨b, off + k * 1 + 0, none⟩) hb).trans (hcl k _ ht 0 _ rfl)
            simpa using this
          have HT := Lib.hid (all_take (shortB 1000) ht)
          rw [HR.out, Bool.true_and] at HT
          clear hcl ht
          by_cases hs : t.length ≤ 1000
          · have n9 : ¬ (1000 : Int) < (t.length : Int) := by omega
            rw [show shortB 1000 t = true from decide_eq_true hs] at HT
            clear hs
            go_wp2
            exact ⟨⟨k + 1, by omega, by go_num, HT, trivial⟩, by simp [intOf]; omega⟩
          · have n9 : (1000 : Int) < (t.length : Int) := by omega
            rw [show shortB 1000 t = false from decide_eq_false hs] at HT
            have HN := Lib.hid (all_no (shortB 1000) HT.out)
            clear hs
            go_wp2
            go_ret
            exact ⟨by rw [HQ.out, HN.out]; simp, HBZ.out⟩
        · have hr := HR.out
          rw [show k = x.w.length by omega, List.take_length] at hr
          have HR2 := Lib.hid hr
          have k1 : ¬ (k : Int) < (x.w.length : Int) := by omega
          clear hr
          go_wp2
          go_ret
          exact ⟨by rw [HQ.out, HR2.out]; rfl, HBZ.out⟩
end Go.Proofs.YtljinmfkogmmlaaGreat.Spc
