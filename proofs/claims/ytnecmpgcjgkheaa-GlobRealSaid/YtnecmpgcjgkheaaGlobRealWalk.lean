/-
  The walk of the law GlobReal: it returns true, whatever its arguments. Conditions: the library's variable MaxLen holds some number (arguments as the row reads them).
-/
import Derived.Test.YtnecmpgcjgkheaaFlOpen
set_option linter.unusedSimpArgs false
set_option linter.unusedVariables false
namespace Go.Proofs.Ytnecmpgcjgkheaa.globReal
open Go.ChangeShapes Go.WideShapes Go.Deep Go.ChangeAt Go.RowKit Fil Pat Glob
set_option maxRecDepth 100000
set_option maxHeartbeats 6400000 in
theorem walk {H : Type} (enc : TypeId × Value → H) (w : World) (base : Nat) {v0 v1 v2 : Value} {d0 d1 d2 : DataW H} {p0 p1 p2 : List MemPlace} (hm : MaxL w)
    (h0 : DataW.Trod enc Try.prog w 0 (fun _ => true) true 27 v0 d0 p0) (k0 : Value.okWide Try.prog w .any base 27 v0)
    (h1 : DataW.Trod enc Try.prog w 0 (fun _ => true) true 9 v1 d1 p1) (k1 : Value.okWide Try.prog w .any base 9 v1)
    (h2 : DataW.Trod enc Try.prog w 0 (fun _ => true) true 9 v2 d2 p2) (k2 : Value.okWide Try.prog w .any base 9 v2) :
    Calls Try.prog 4 #[v0, v1, v2] w fun e w' => e = .returned (.bool true) ∧ Below w.heap.size w w' := by
  obtain ⟨l, hv, -, hxl⟩ := open_sl flC FlOk Try.underlying27 fl_cells (by omega) fl_dec h0 k0
  obtain ⟨dir, rfl, hs1⟩ := open_text h1 k1
  obtain ⟨p, rfl, hs2⟩ := open_text h2 k2
  clear h0 k0 h1 k1 h2 k2
  have HAW := Lib.hid (awake27_any w hm)
  have HV := Lib.hid hv
  have HM := Lib.hid hm
  have HFE := Lib.hid fun W (hW : Below w.heap.size w W) => few_any l v0 W (hv.below hW)
  by_cases l1 : fewB l = true ∧ dir.length ≤ 100 ∧ p.length ≤ 40
  rotate_left
  · cases hf : fewB l with
    | false =>
      rw [hf] at HFE
      go_enter Try.func4, Try.ntmps4
      go_wp2_with (first
        | (go_at_call 6; refine HAW.out.mono ?_; rintro e w1 ⟨rfl, hb⟩; have HB1 := Lib.hid hb; clear hb)
        | (go_at_call 10; refine (HFE.out _ HB1.out).mono ?_; rintro e w2 ⟨rfl, hb⟩; have HB2 := Lib.hid (below_then HB1.out hb); clear hb))
      go_ret
      exact ⟨rfl, HB2.out⟩
    | true =>
      rw [hf] at HFE
      by_cases l2 : 100 < dir.length
      · have d1 : decide ((100 : Int) < (dir.length : Int)) = true := decide_eq_true (by omega)
        go_enter Try.func4, Try.ntmps4
        go_wp2_with (first
          | (go_at_call 6; refine HAW.out.mono ?_; rintro e w1 ⟨rfl, hb⟩; have HB1 := Lib.hid hb; clear hb)
          | (go_at_call 10; refine (HFE.out _ HB1.out).mono ?_; rintro e w2 ⟨rfl, hb⟩; have HB2 := Lib.hid (below_then HB1.out hb); clear hb))
        go_ret
        exact ⟨rfl, HB2.out⟩
      · have d1 := no (show ¬ (100 : Int) < (dir.length : Int) by omega)
        have d2 : decide ((40 : Int) < (p.length : Int)) = true := decide_eq_true (by
          have : ¬ (dir.length ≤ 100 ∧ p.length ≤ 40) := fun q => l1 ⟨hf, q⟩
          omega)
        go_enter Try.func4, Try.ntmps4
        go_wp2_with (first
          | (go_at_call 6; refine HAW.out.mono ?_; rintro e w1 ⟨rfl, hb⟩; have HB1 := Lib.hid hb; clear hb)
          | (go_at_call 10; refine (HFE.out _ HB1.out).mono ?_; rintro e w2 ⟨rfl, hb⟩; have HB2 := Lib.hid (below_then HB1.out hb); clear hb))
        go_ret
        exact ⟨rfl, HB2.out⟩
  obtain ⟨hf, l2, l3⟩ := l1
  rw [hf] at HFE
  have d1 := no (show ¬ (100 : Int) < (dir.length : Int) by omega)
  have d2 := no (show ¬ (40 : Int) < (p.length : Int) by omega)
  unfold fewB at hf
  rw [Bool.and_eq_true, decide_eq_true_eq, List.all_eq_true] at hf
  obtain ⟨hl20, hfl⟩ := hf
  have HOF := Lib.hid fun W (hW : Below w.heap.size w W) => of_any l v0 W (hv.below hW) (hm.below hW) (by omega) (fun f hf => by have := of_decide_eq_true (hfl f hf); omega)
  unfold OfP at HOF
  have hol := ofF_len l.length l
  have hom := ofF_mem l.length l
  rw [List.take_length] at hol hom
  have HXL := Lib.hid (show ∀ f ∈ ofF l, f.path.length ≤ 100 from fun f hf => of_decide_eq_true (hfl f (hom f hf)))
  have HX := Lib.hid (show (ofF l).length ≤ 20 by omega)
  clear hol hom hfl hv hm hxl
  generalize ofF l = x at *
  have HG := Lib.hid fun W (hW : Below w.heap.size w W) (b0 tb : Nat) nb mp (h : TreeAt W b0 tb x nb mp) => globPaths_any W b0 tb x nb mp dir p h (HM.out.below hW) (by omega) (by omega) (by have := HX.out; omega) (fun f hf => by have := HXL.out f hf; omega) (globG_len h.ok HX.out (by omega))
  go_enter Try.func4, Try.ntmps4
  go_wp2_with (first
    | (go_at_call 6; refine HAW.out.mono ?_; rintro e w1 ⟨rfl, hb⟩; have HB1 := Lib.hid hb; clear hb)
    | (go_at_call 10; refine (HFE.out _ HB1.out).mono ?_; rintro e w2 ⟨rfl, hb⟩; have HB2 := Lib.hid (below_then HB1.out hb); clear hb)
    | (go_at_call 11; (with_reducible refine (HOF.out _ HB2.out).mono ?_); rintro e w3 ⟨rfl, ⟨nb, mp, ht⟩, hb⟩; have HT := Lib.hid ht; have HB3 := Lib.hid (below_then HB2.out hb); clear ht hb)
    | (go_at_call 12; (with_reducible refine (HG.out _ HB3.out _ _ nb mp HT.out).mono ?_); rintro e w4 ⟨v4, rfl, ho, hb⟩; have HO := Lib.hid ho; have HT4 := Lib.hid (HT.out.below hb); have HB4 := Lib.hid (below_then HB3.out hb); clear ho hb))
  have hrise := pathsG_rise x dir p
  have hreal := fun a (h : a ∈ pathsG x dir p) => paths_real HT4.out.ok h
  have HKD := Lib.hid fun W (hW : Below w4.heap.size w4 W) (q : List UInt8) (hq : q.length ≤ 1073741824) => kind_any W _ _ x nb mp q (HT4.out.below hW) (HM.out.below (below_then HB4.out hW)) hq
  have HCL := Lib.hid fun W (hW : Below w4.heap.size w4 W) (q : List UInt8) (hq : q.length ≤ 268435456) => clean_any dir q W (HM.out.below (below_then HB4.out hW)) (by omega) hq
  have HPL := Lib.hid fun a (h : a ∈ pathsG x dir p) => paths_tx (x := x) (dir := dir) (p := p) (fun f hf => by have := HXL.out f hf; omega) (by omega) h
  have HRI := Lib.hid hrise
  have HRE := Lib.hid hreal
  clear hrise hreal HG HOF HFE HAW HX HXL HT HT4
  generalize pathsG x dir p = P at *
  obtain ⟨A, c, rfl, hA⟩ := HO.out.form0
  have hcap := own_cap HO.out _ _ _ rfl
  have HA := Lib.hid hA
  clear hA
  go_loopw [9] (fun i W => ∃ k : Nat, k ≤ P.length ∧ i = .int .i64 k ∧ Hid (Below w4.heap.size w4 W)) (fun i _ => P.length - (intOf i).toNat)
  case atStart => exact ⟨0, by omega, rfl, Below.refl _ _⟩
  case round =>
    obtain ⟨k, hk, rfl, HB⟩ := hrel
    have hbs := HB.out.size
    by_cases hlt : k < P.length
    rotate_left
    · have hk2 : k = P.length := by omega
      subst hk2
      have d0 := no hlt
      go_wp2
      go_ret
      exact ⟨rfl, below_then HB4.out HB.out⟩
    obtain ⟨g, off, rfl⟩ := HA.out (by omega)
    obtain ⟨a, ha⟩ := get_some hlt
    obtain ⟨-, hg2, e0⟩ := Glob.own_str HO.out ha
    have e0 := (HB.out.cell (p := ⟨g, off + k, none⟩) hg2).trans e0
    haveI : Old wr g := ⟨World.block_lt_of_cell? _ _ e0⟩
    have k0 : (0 : Int) ≤ (k : Int) := by omega
    have k1 : (k : Int) < (P.length : Int) := by omega
    have hal := HPL.out a (List.mem_of_getElem? ha)
    have hka := HRE.out a (List.mem_of_getElem? ha)
    have hcl := clean_len2 dir a
    have HC := Lib.hid fun W (hW : Below wr.heap.size wr W) => HCL.out W (below_then HB.out hW) a (by omega)
    have HK := Lib.hid fun W (hW : Below wr.heap.size wr W) => HKD.out W (below_then HB.out hW) (cleanL dir a) (by omega)
    rw [show (if pathB (cleanL dir a) = true then kindL x (cleanL dir a) else 0) = kindP x (cleanL dir a) from rfl] at HK
    have hk0 : (kindP x (cleanL dir a) == 0) = false := by simpa using hka
    generalize kindP x (cleanL dir a) = kd at *
    have HAA := Lib.hid ha
    clear ha hal hka
    cases k with
    | zero =>
      have e0 : wr.cell? ⟨g, off, none⟩ = some (.string (B a)) := e0
      have k1 : (0 : Int) < (P.length : Int) := by omega
      rw [show ((0 : Nat) : Int) = 0 from rfl]
      go_wp2_with fail
      (refine wp_region_grow (by kernel_rfl) (by kernel_rfl) ?_; (repeat (go_big_quiet_step ((first | (go_at_call 14; exact grow_of (HC.out _ (grow_below _ _))) | (go_at_call 13; exact grow_of (HK.out _ (grow_below _ _))))))); refine wpQuiet_nil ?_; intro _ hw'; obtain ⟨gq, hw''⟩ := hw'; subst hw'')
      go_wp2_with fail
      go_roundw
      case rel => exact ⟨1, by omega, by go_num, below_then HB.out (grow_below _ _)⟩
      case measure => simp [intOf]; omega
    | succ j =>
      obtain ⟨b, hb⟩ := get_some (show j < P.length by omega)
      obtain ⟨-, hg3, e1⟩ := Glob.own_str HO.out hb
      have e1 := (HB.out.cell (p := ⟨g, off + j, none⟩) hg3).trans e1
      have hlt2 : Op.bytesLess b a = true := by
        rw [less_lt, decide_eq_true_eq]
        obtain ⟨q1, rfl⟩ := List.getElem?_eq_some_iff.1 HAA.out
        obtain ⟨q2, rfl⟩ := List.getElem?_eq_some_iff.1 hb
        exact List.pairwise_iff_getElem.1 HRI.out j (j + 1) q2 q1 (by omega)
      have j0 : (0 : Int) ≤ (j : Int) := by omega
      have j1 : (j : Int) < (P.length : Int) := by omega
      have j2 : decide ((0 : Int) < (j : Int) + 1) = true := decide_eq_true (by omega)
      have k0 : (0 : Int) ≤ (j : Int) + 1 := by omega
      have k1 : (j : Int) + 1 < (P.length : Int) := by omega
      have jw : IntKind.i64.wrap ((j : Int) + 1 - 1) = (j : Int) := by
        obtain ⟨_, _, _, _, _, _, q1, q2⟩ := HO.out.form' (by omega)
        rw [IntWalk.i64_in _ (by omega)]; omega
      have jw2 : IntKind.i64.wrap (j : Int) = (j : Int) := by
        obtain ⟨_, _, _, _, _, _, q1, q2⟩ := HO.out.form' (by omega)
        rw [IntWalk.i64_in _ (by omega)]
      rw [show ((j + 1 : Nat) : Int) = (j : Int) + 1 from rfl]
      have HJ2 := Lib.hid (show j + 2 ≤ P.length by omega)
      clear hb
      go_wp2_with fail
      (refine wp_region_grow (by kernel_rfl) (by kernel_rfl) ?_; (repeat (go_big_quiet_step ((first | (go_at_call 14; exact grow_of (HC.out _ (grow_below _ _))) | (go_at_call 13; exact grow_of (HK.out _ (grow_below _ _))))))); refine wpQuiet_nil ?_; intro _ hw'; obtain ⟨gq, hw''⟩ := hw'; subst hw'')
      have jq : (j : Int) + 2 ≤ 9223372036854775807 := by
        obtain ⟨_, _, _, _, _, _, q1, q2⟩ := HO.out.form' (by omega)
        have := HJ2.out
        omega
      go_wp2_with fail
      go_roundw
      case rel => exact ⟨j + 2, HJ2.out, by go_num, below_then HB.out (grow_below _ _)⟩
      case measure => have := HJ2.out; simp [intOf]; omega
end Go.Proofs.Ytnecmpgcjgkheaa.globReal
