/-
  The walks of layer 16 (pattern): the reference's classes. Conditions: texts of at most 2^40 bytes.
-/
import Derived.Test.YtnecmpgcjgkheaaGreatTree10
import Derived.Test.YtnecmpgcjgkheaaGreatPatA
import Derived.Test.YtnecmpgcjgkheaaGreatShelfB
set_option linter.unusedSimpArgs false
set_option linter.unusedVariables false
namespace Go.Proofs.YtnecmpgcjgkheaaGreat.Fil
open Go.ChangeShapes Go.WideShapes Go.Deep Go.RowKit Pat
set_option maxRecDepth 100000
end Go.Proofs.YtnecmpgcjgkheaaGreat.Fil
namespace Go.Proofs.YtnecmpgcjgkheaaGreat.Fil
open Go.ChangeShapes Go.WideShapes Go.Deep Go.RowKit Pat
set_option maxRecDepth 100000
/-- What List answers. -/
def liN (x : List Fl) (p : List UInt8) : Int := if pathB p = true then (if kindL x p = 0 then 3 else if kindL x p = 1 then 0 else 11) else 10
def liL (x : List Fl) (p : List UInt8) : List (List UInt8) := if liN x p = 0 then namesR x p else []
def ListP (x : List Fl) (p : List UInt8) (w : World) (e : Ending) (w' : World) : Prop := ∃ v, e = .returned (.tuple #[v, .int .i64 (liN x p)]) ∧ Own w' w.heap.size 1 v (liL x p).length ((liL x p).flatMap strC) ∧ Below w.heap.size w w'
theorem ListP.no {x : List Fl} {p : List UInt8} {w w' : World} {n : Int} (h : liN x p = n) (hn : n ≠ 0) (hb : Below w.heap.size w w') : ListP x p w (.returned (.tuple #[.slice none 0 0, .int .i64 n])) w' := by
  refine ⟨_, by rw [h], ?_, hb⟩
  unfold liL
  rw [if_neg (by rw [h]; exact hn)]
  exact Own.nil _ _ _
set_option maxHeartbeats 3200000 in
theorem list_any (w : World) (b0 tb : Nat) (x : List Fl) (nb : List (List UInt8) → Nat) (mp : List (List UInt8) → Option Nat) (p : List UInt8) (h : TreeAt w b0 tb x nb mp) (hm : MaxL w) (hl : p.length ≤ 1073741824) (hx : x.length ≤ 1048576) :
    Calls Tryz.prog 69 #[.pointer (some ⟨tb, 0, none⟩), .string (B p)] w (ListP x p w) := by
  have HIP := Lib.hid (isPath_any p w hm hl)
  have hmn : liN x p = if pathB p = true then (if kindL x p = 0 then 3 else if kindL x p = 1 then 0 else 11) else 10 := rfl
  cases hp : pathB p with
  | false =>
    rw [hp] at HIP
    rw [hp, if_neg (by simp)] at hmn
    have HMN := Lib.hid hmn
    clear h hm hp hmn
    go_enter Tryz.func69, Tryz.ntmps69
    go_wp2_with (go_at_call 24; refine HIP.out.mono ?_; rintro e w1 ⟨rfl, hb⟩; have HB := Lib.hid hb; clear hb)
    go_ret2
    exact ListP.no HMN.out (by decide) HB.out
  | true =>
    rw [hp] at HIP
    rw [hp, if_pos rfl] at hmn
    have HF := Lib.hid fun W (hW : Below w.heap.size w W) => find_any W b0 tb x nb mp p (h.below hW) (hm.below hW) hp hl
    have hkk := kd_kind h.ok hp
    unfold nodeV at HF
    cases hk : kd x (nms p) with
    | none =>
      rw [hk] at HF hkk
      rw [if_pos (by rw [hkk]; rfl)] at hmn
      have HMN := Lib.hid hmn
      simp only [Option.isSome_none, Bool.false_eq_true, if_false] at HF
      unfold ptrV at HF
      clear h hm hkk hk hp hmn
      go_enter Tryz.func69, Tryz.ntmps69
      go_wp2_with (first | (go_at_call 24; refine HIP.out.mono ?_; rintro e w1 ⟨rfl, hb⟩; have HB := Lib.hid hb; clear hb) | (go_at_call 26; refine (HF.out _ HB.out).mono ?_; rintro e w2 ⟨rfl, hb⟩; have HB2 := Lib.hid (below_then HB.out hb); clear hb))
      go_ret2
      exact ListP.no HMN.out (by decide) HB2.out
    | some kk =>
      rw [hk] at HF hkk
      have hpos := kd_pos h.ok hk
      simp only [Option.getD_some] at hkk
      rw [if_neg (by rw [hkk]; omega)] at hmn
      simp only [Option.isSome_some, if_true] at HF
      unfold ptrV at HF
      have HN := Lib.hid fun W (hW : Below w.heap.size w W) => (h.below hW).n (nms p) kk hk
      by_cases q1 : kk = 1
      · subst q1
        rw [if_pos hkk] at hmn
        have HMN := Lib.hid hmn
        have HNN := Lib.hid fun W (hW : Below w.heap.size w W) => names_node W b0 tb x nb mp (nms p) (h.below hW) (by rw [hk]; rfl) (by omega)
        have HEQ := Lib.hid fun ss h1 h2 => namesR_eq (ss := ss) h.ok hp h1 h2
        clear h hm hkk hk hp hmn hpos
        go_enter Tryz.func69, Tryz.ntmps69
        go_wp2_with (first
          | (go_at_call 24; refine HIP.out.mono ?_; rintro e w1 ⟨rfl, hb⟩; have HB := Lib.hid hb; clear hb)
          | (go_at_call 26; refine (HF.out _ HB.out).mono ?_; rintro e w2 ⟨rfl, hb⟩; have HB2 := Lib.hid (below_then HB.out hb); obtain ⟨n1, n2, n3, n4, n5, n6⟩ := HN.out _ HB2.out; haveI : Old w2 (nb (nms p)) := ⟨n2⟩; clear hb n1 n3 n5 n6)
          | (go_at_call 83; refine (HNN.out _ HB2.out).mono ?_; rintro e w3 ⟨v3, ss, rfl, ho3, hb3, hr3, hm3⟩; have HO3 := Lib.hid (ho3.mono HB2.out.size : Own w3 w.heap.size 1 v3 _ _); have HB3 := Lib.hid (below_then HB2.out hb3); have HE := Lib.hid (HEQ.out ss hr3 hm3); clear ho3 hb3 hr3 hm3))
        go_ret2
        refine ⟨_, by rw [HMN.out]; rfl, ?_, HB3.out⟩
        unfold liL
        rw [if_pos HMN.out, ← HE.out]
        exact HO3.out
      · rw [if_neg (by rw [hkk]; exact q1)] at hmn
        have HMN := Lib.hid hmn
        have q2 : (kk != 1) = true := by simpa using q1
        clear h hm hkk hk hp hmn hpos q1
        go_enter Tryz.func69, Tryz.ntmps69
        go_wp2_with (first
          | (go_at_call 24; refine HIP.out.mono ?_; rintro e w1 ⟨rfl, hb⟩; have HB := Lib.hid hb; clear hb)
          | (go_at_call 26; refine (HF.out _ HB.out).mono ?_; rintro e w2 ⟨rfl, hb⟩; have HB2 := Lib.hid (below_then HB.out hb); obtain ⟨n1, n2, n3, n4, n5, n6⟩ := HN.out _ HB2.out; haveI : Old w2 (nb (nms p)) := ⟨n2⟩; clear hb n1 n3 n5 n6))
        go_ret2
        exact ListP.no HMN.out (by decide) HB2.out
end Go.Proofs.YtnecmpgcjgkheaaGreat.Fil
namespace Go.Proofs.YtnecmpgcjgkheaaGreat.Pat
open Go.ChangeShapes Go.WideShapes Go.Deep Go.RowKit
set_option maxRecDepth 100000
theorem u8_ne {x y : UInt8} (h : ¬ x = y) : (((x.toNat : Nat) : Int) == ((y.toNat : Nat) : Int)) = false := by
  rw [beq_eq_false_iff_ne]
  intro e
  exact h (UInt8.toNat_inj.1 (by omega))
theorem in_any (b : UInt8) (s : List UInt8) (w : World) (hs : s.length ≤ 4294967296) : Calls Tryz.prog 100 #[.int .u8 b.toNat, .string (B s)] w fun e w' => e = .returned (.bool (s.contains b)) ∧ w = w' := by
  obtain ⟨r, hr⟩ : ∃ r, r = s.contains b := ⟨_, rfl⟩
  rw [← hr]
  have HRR := Lib.hid hr
  clear hr
  go_enter Tryz.func100, Tryz.ntmps100
  go_wp2
  go_loop [5] (fun i => ∃ k : Nat, k ≤ s.length ∧ i = .int .i64 k ∧ Hid ((s.take k).contains b = false)) (fun i => s.length - (intOf i).toNat)
  case atStart => exact ⟨0, by omega, rfl, rfl⟩
  case round =>
    obtain ⟨k, hk, rfl, HR⟩ := hrel
    by_cases hlt : k < s.length
    · have HT := Lib.hid (show s.take (k + 1) = s.take k ++ [s[k]] by rw [List.take_succ_eq_append_getElem hlt])
      have HM := Lib.hid (List.getElem_mem hlt)
      by_cases hx : s[k] = b
      · have HX := Lib.hid hx
        have hx' : ((s[k].toNat : Int) == (b.toNat : Int)) = true := by rw [hx]; simp
        clear hx
        go_wp2
        go_ret
        refine ⟨?_, rfl⟩
        have : s.contains b = true := by rw [List.contains_iff_mem, ← HX.out]; exact HM.out
        rw [HRR.out, this]; rfl
      · have hx' := u8_ne hx
        have HX := Lib.hid hx
        clear hx
        go_wp2
        go_round
        case rel => exact ⟨k + 1, by omega, by go_num, by
          show _ = false
          rw [HT.out, List.contains_append, HR.out, Bool.false_or]
          simpa using fun e => HX.out e.symm⟩
        case measure => simp [intOf]; omega
    · have hk' : k = s.length := by omega
      have h := HR.out
      rw [hk', List.take_length] at h
      have H := Lib.hid h
      clear h HR hk'
      go_wp2
      go_ret
      exact ⟨by rw [HRR.out, H.out]; rfl, rfl⟩
theorem btw_yes {b : UInt8} {lo hi : Int} (h1 : lo ≤ (b.toNat : Int)) (h2 : (b.toNat : Int) ≤ hi) : Value.bool true = .bool (btw b lo hi) := by rw [btw_mk (yes h1) (yes h2)]; rfl
theorem btw_no1 {b : UInt8} {lo hi : Int} (h1 : ¬ lo ≤ (b.toNat : Int)) : Value.bool false = .bool (btw b lo hi) := by rw [btw_mk (no h1) rfl]; rfl
theorem btw_no2 {b : UInt8} {lo hi : Int} (h1 : ¬ (b.toNat : Int) ≤ hi) : Value.bool false = .bool (btw b lo hi) := by
  unfold btw; rw [no h1, Bool.and_false]
theorem alpha_eq (b : UInt8) : (alnumB b && decide (57 < (b.toNat : Int))) = (btw b 65 90 || btw b 97 122) := by
  have h : ∀ n : Fin 256, (alnumB (UInt8.ofNat n.val) && decide (57 < ((UInt8.ofNat n.val).toNat : Int))) = (btw (UInt8.ofNat n.val) 65 90 || btw (UInt8.ofNat n.val) 97 122) := by decide +kernel
  have := h ⟨b.toNat, b.toNat_lt⟩
  simpa using this
theorem e33 (b : UInt8) : btw b 33 126 = (decide (33 ≤ (b.toNat : Int)) && decide ((b.toNat : Int) ≤ 126)) := rfl
theorem e32 (b : UInt8) : btw b 32 126 = (decide (32 ≤ (b.toNat : Int)) && decide ((b.toNat : Int) ≤ 126)) := rfl
theorem e9 (b : UInt8) : btw b 9 13 = (decide (9 ≤ (b.toNat : Int)) && decide ((b.toNat : Int) ≤ 13)) := rfl
set_option maxHeartbeats 3200000 in
theorem of_any (name : List UInt8) (b : UInt8) (w : World) : Calls Tryz.prog 88 #[.string (B name), .int .u8 b.toNat] w fun e w' => e = .returned (.bool (inCls name b)) ∧ w = w' := by
  have HIN := Lib.hid fun w => in_any b [65, 66, 67, 68, 69, 70, 97, 98, 99, 100, 101, 102] w (by decide)
  rw [hex_in] at HIN
  go_enter Tryz.func88, Tryz.ntmps88
  go_upto_region 1 with (fail)
  go_cut [5] (fun s5 w' => s5 = .bool (btw b 65 90) ∧ w' = w)
  case first =>
    go_wp2
    all_goals
      go_meet
      first | exact ⟨btw_no1 (by omega), rfl⟩ | exact ⟨btw_no2 (by omega), rfl⟩ | exact ⟨btw_yes (by omega) (by omega), rfl⟩ | (refine ⟨?_, rfl⟩; unfold btw; simp [*]; done)
  case rest =>
  obtain ⟨rfl, rfl⟩ := hcut
  go_upto_region 2 with (fail)
  go_cut [6] (fun s5 w' => s5 = .bool (btw b 97 122) ∧ w' = wc)
  case first =>
    go_wp2
    all_goals
      go_meet
      first | exact ⟨btw_no1 (by omega), rfl⟩ | exact ⟨btw_no2 (by omega), rfl⟩ | exact ⟨btw_yes (by omega) (by omega), rfl⟩ | (refine ⟨?_, rfl⟩; unfold btw; simp [*]; done)
  case rest =>
  obtain ⟨rfl, rfl⟩ := hcut
  go_upto_region 3 with (fail)
  go_cut [7] (fun s5 w' => s5 = .bool (btw b 48 57) ∧ w' = wc)
  case first =>
    go_wp2
    all_goals
      go_meet
      first | exact ⟨btw_no1 (by omega), rfl⟩ | exact ⟨btw_no2 (by omega), rfl⟩ | exact ⟨btw_yes (by omega) (by omega), rfl⟩ | (refine ⟨?_, rfl⟩; unfold btw; simp [*]; done)
  case rest =>
  obtain ⟨rfl, rfl⟩ := hcut
  go_wp2_with (go_at_call 100; refine (HIN.out _).mono ?_; rintro e w' ⟨rfl, rfl⟩)
  all_goals
    go_ret
    refine ⟨ret_b ?_, rfl⟩
    first | (simp [inCls, clsOf, nUpper, nLower, nAlpha, alpha_eq, *]; done) | simp [inCls, clsOf, nUpper, nLower, nAlpha, nDigit, nAlnum, nXdigit, nBlank, nSpace, nCntrl, nPrint, nGraph, nPunct, alnumB, e33, e32, e9, *] <;> omega
end Go.Proofs.YtnecmpgcjgkheaaGreat.Pat
