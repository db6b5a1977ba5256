/-
  The walk of the law GlobPaths: it returns true, whatever its arguments. Conditions: the library's variable MaxLen holds some number (arguments as the row reads them).
-/
import Derived.Test.YtnecmpgcjgkheaaGreatGlobRef
import Derived.Test.YtnecmpgcjgkheaaGreatFlOpen
set_option linter.unusedSimpArgs false
set_option linter.unusedVariables false
namespace Go.Proofs.YtnecmpgcjgkheaaGreat.globPaths
open Go.ChangeShapes Go.WideShapes Go.Deep Go.ChangeAt Go.RowKit Fil Pat Glob
set_option maxRecDepth 100000
set_option maxHeartbeats 1600000 in
theorem rows_any (l : List Fl) (v : Value) (w : World) (hv : Sl w flC 2 v l) (hl : l.length ≤ 1000) (hn : ∀ f ∈ l, f.path.length ≤ 10000) : Calls Tryz.prog 10 #[v] w fun e w' => ∃ u, e = .returned u ∧ Sl w' flC 2 u (ofF l) ∧ Below w.heap.size w w' := by
  have HRM := Lib.hid refMake_any
  obtain ⟨A, c, rfl, hc1, hc2, hn0, hA⟩ := hv
  have HA := Lib.hid hA
  have HN := Lib.hid hn
  clear hA hn0 hn
  go_enter Tryz.func10, Tryz.ntmps10
  go_wp2
  go_loopw [3, 4] (fun o i w' => ∃ (k : Nat) (u : Value), u = o ∧ k ≤ l.length ∧ i = .int .i64 k ∧ Hid (Sl w' flC 2 u (ofF (l.take k))) ∧ Hid (Below w.heap.size w w')) (fun _ i _ => l.length - (intOf i).toNat)
  case atStart => exact ⟨0, _, rfl, by omega, rfl, Sl.nil _ _ _, Below.refl _ _⟩
  case round =>
    obtain ⟨k, u, rfl, hk, rfl, HO, HB⟩ := hrel
    have hbs := HB.out.size
    by_cases hlt : k < l.length
    · obtain ⟨b, off, rfl, hb, hc⟩ := HA.out (by omega)
      obtain ⟨x, hxm⟩ := get_some hlt
      have e0 := (HB.out.cell (p := ⟨b, off + k * 2, none⟩) hb).trans (by have := hc k _ hxm 0 _ rfl; simpa using this)
      have e1 := (HB.out.cell (p := ⟨b, off + k * 2 + 1, none⟩) hb).trans (hc k _ hxm 1 _ rfl)
      haveI : Old wr b := ⟨World.block_lt_of_cell? _ _ e0⟩
      have k0 : (0 : Int) ≤ (k : Int) := by omega
      have k1 : (k : Int) < (l.length : Int) := by omega
      have hxl := HN.out x (List.mem_of_getElem? hxm)
      have HXM := Lib.hid hxm
      have hfl := ofF_len k l
      have HMK := Lib.hid fun W (hW : Below wr.heap.size wr W) => HRM.out (ofF (l.take k)) u x.path x.kind W (HO.out.below hW) (by omega) (by omega)
      rw [← ofF_snoc l k x HXM.out] at HMK
      clear hc hxm hfl
      go_wp2_with fail
      (refine wp_region_grow_mid 11 (by kernel_rfl) (by kernel_rfl) rfl ?_; simp only [List.take_succ_cons, List.take_zero, List.drop_succ_cons, List.drop_zero]; (repeat (go_big_quiet_step (fail))); refine wpQuiet_nil ?_; intro _ hw'; obtain ⟨gq, hw''⟩ := hw'; subst hw''; intro K hK; go_simp; ((go_at_call 19; refine (HMK.out _ (grow_below _ _)).mono ?_; rintro e w4 ⟨v4, rfl, ho4, hb4, -⟩; have HO4 := Lib.hid ho4; have HB4 := Lib.hid (below_then (below_grow HB.out _) hb4); clear ho4 hb4)); refine hK.out _ _ ?_; clear hK K; (repeat (go_big_quiet_step (fail))); refine wpQuiet_nil ?_; intro _ hw'; obtain ⟨gq2, hw''⟩ := hw'; subst hw'')
      have HO5 := Lib.hid (HO4.out.below (grow_below w4 gq2))
      have HB5 := Lib.hid (below_grow HB4.out gq2)
      generalize grow w4 gq2 = W4 at *
      go_wp2_with fail
      go_roundw
      case rel => exact ⟨k + 1, v4, rfl, by omega, by go_num, HO5.out, HB5.out⟩
      case measure => simp [intOf]; omega
    · have hk2 : k = l.length := by omega
      subst hk2
      have d0 := no hlt
      have hu := HO.out
      rw [List.take_length] at hu
      have HU := Lib.hid hu
      clear hlt hu
      go_wp2
      go_ret
      exact ⟨_, rfl, HU.out, HB.out⟩
set_option maxHeartbeats 1600000 in
theorem refPathsG_any {x : List Fl} (hr : RowF x) (hx : x.length ≤ 1000000) (hxl : ∀ f ∈ x, f.path.length ≤ 10000) (dir p : List UInt8) (vl : Value) (w : World) (hl : Sl w flC 2 vl x) (hp : p.length ≤ 9000) (hd : dir.length ≤ 10000) (hn : (globG x dir p).length ≤ 1099511627776) :
    Calls Tryz.prog 9 #[vl, .string (B dir), .string (B p)] w (WkP [] (globG x dir p) w) := by
  have HIP := Lib.hid (refIsPath_any dir w (by omega))
  have HPT := Lib.hid fun W => refPartsG_any p W (by omega)
  have HL := Lib.hid hl
  have hpl := partsG_len p
  have HPL := Lib.hid hpl
  have HWA := Lib.hid (refWalk_any hr hx hxl (partsG p) (fun q hq => ⟨by have := hpl.2 q hq; omega, partsG_no p q hq⟩))
  clear hl hr hxl
  by_cases hp0 : p = []
  · subst hp0
    rw [show globG x dir [] = [] by simp [globG]]
    go_enter Tryz.func9, Tryz.ntmps9
    go_wp2
    go_ret
    exact ⟨_, rfl, Sl.nil _ _ _, Below.refl _ _⟩
  have hpe : (p == []) = false := by simpa using hp0
  cases hpd : pathB dir with
  | false =>
    rw [hpd] at HIP
    rw [show globG x dir p = [] by unfold globG; rw [if_pos (.inr hpd)]]
    clear hp0 hpd
    go_enter Tryz.func9, Tryz.ntmps9
    go_wp2_with (go_at_call 16; refine HIP.out.mono ?_; rintro e w1 ⟨rfl, hb⟩; have HB := Lib.hid hb; clear hb)
    go_ret
    exact ⟨_, rfl, Sl.nil _ _ _, HB.out⟩
  | true =>
    rw [hpd] at HIP
    have HG := Lib.hid (show globG x dir p = walkG x (partsG p) [] (if (partsG p).head? = some [] then [47] else dir) by unfold globG; rw [if_neg (by simp [hp0, hpd])])
    rw [HG.out] at hn ⊢
    have HPD := Lib.hid hpd
    have HNE := Lib.hid (partsG_ne p)
    have hlen := HPL.out.1
    clear hp0 hpd HG hpl
    generalize partsG p = P at *
    obtain ⟨q0, qs, rfl⟩ : ∃ q0 qs, P = q0 :: qs := by cases P with | nil => exact absurd rfl HNE.out | cons a b => exact ⟨a, b, rfl⟩
    by_cases hq : q0 = []
    · subst hq
      rw [List.head?_cons, if_pos rfl] at hn ⊢
      have HW := Lib.hid fun (vp : Value) (W : World) (hW : Below w.heap.size w W) (h : Sl W strC 1 vp ([] :: qs)) => HWA.out [] [47] [] vl (.slice none 0 0) vp W (by simp) (HL.out.below hW) (Sl.nil _ _ _) h (by decide +kernel) (by simp; simp at hlen; omega) (by simp; simp at hlen; omega) (by simpa using hn)
      clear hn
      go_enter Tryz.func9, Tryz.ntmps9
      go_wp2_with (first
        | (go_at_call 16; refine HIP.out.mono ?_; rintro e w1 ⟨rfl, hb⟩; have HB := Lib.hid hb; clear hb)
        | (go_at_call 17; refine (HPT.out _).mono ?_; rintro e w2 ⟨v2, rfl, ho, hb⟩; have HB2 := Lib.hid (below_then HB.out hb); obtain ⟨g, off, c, rfl, hg, hg2, -, -⟩ := ho.form' (by simp); have HS2 := Lib.hid (ho.sl (fun _ _ => rfl) rfl); obtain ⟨-, -, c0⟩ := Glob.own_str ho (k := 0) rfl; rw [Nat.add_zero] at c0; haveI : Old w2 g := ⟨hg2⟩; clear ho hb hg)
        | (go_at_call 18; refine (HW.out _ _ HB2.out HS2.out).mono ?_; rintro e w3 ⟨v3, rfl, ho, hb⟩; have HO3 := Lib.hid ho; have HB3 := Lib.hid (below_then HB2.out hb); clear ho hb))
      go_ret
      exact ⟨_, rfl, HO3.out, HB3.out⟩
    · have hqe : (q0 == []) = false := by simpa using hq
      rw [List.head?_cons, if_neg (by simpa using hq)] at hn ⊢
      have HW := Lib.hid fun (vp : Value) (W : World) (hW : Below w.heap.size w W) (h : Sl W strC 1 vp (q0 :: qs)) => HWA.out [] dir [] vl (.slice none 0 0) vp W (by simp) (HL.out.below hW) (Sl.nil _ _ _) h HPD.out (by simp; simp at hlen; omega) (by simp at hlen; simp; omega) (by simpa using hn)
      clear hn hq
      go_enter Tryz.func9, Tryz.ntmps9
      go_wp2_with (first
        | (go_at_call 16; refine HIP.out.mono ?_; rintro e w1 ⟨rfl, hb⟩; have HB := Lib.hid hb; clear hb)
        | (go_at_call 17; refine (HPT.out _).mono ?_; rintro e w2 ⟨v2, rfl, ho, hb⟩; have HB2 := Lib.hid (below_then HB.out hb); obtain ⟨g, off, c, rfl, hg, hg2, -, -⟩ := ho.form' (by simp); have HS2 := Lib.hid (ho.sl (fun _ _ => rfl) rfl); obtain ⟨-, -, c0⟩ := Glob.own_str ho (k := 0) rfl; rw [Nat.add_zero] at c0; haveI : Old w2 g := ⟨hg2⟩; clear ho hb hg)
        | (go_at_call 18; refine (HW.out _ _ HB2.out HS2.out).mono ?_; rintro e w3 ⟨v3, rfl, ho, hb⟩; have HO3 := Lib.hid ho; have HB3 := Lib.hid (below_then HB2.out hb); clear ho hb))
      go_ret
      exact ⟨_, rfl, HO3.out, HB3.out⟩
set_option maxHeartbeats 6400000 in
theorem walk {H : Type} (enc : TypeId × Value → H) (w : World) (base : Nat) {v0 v1 v2 : Value} {d0 d1 d2 : DataW H} {p0 p1 p2 : List MemPlace} (hm : MaxL w)
    (h0 : DataW.Trod enc Tryz.prog w 0 (fun _ => true) true 22 v0 d0 p0) (k0 : Value.okWide Tryz.prog w .any base 22 v0)
    (h1 : DataW.Trod enc Tryz.prog w 0 (fun _ => true) true 9 v1 d1 p1) (k1 : Value.okWide Tryz.prog w .any base 9 v1)
    (h2 : DataW.Trod enc Tryz.prog w 0 (fun _ => true) true 9 v2 d2 p2) (k2 : Value.okWide Tryz.prog w .any base 9 v2) :
    Calls Tryz.prog 3 #[v0, v1, v2] w fun e w' => e = .returned (.bool true) ∧ Below w.heap.size w w' := by
  obtain ⟨l, hv, -, hxl⟩ := open_sl flC FlOk Tryz.underlying22 fl_cells (by omega) fl_dec h0 k0
  obtain ⟨dir, rfl, hs1⟩ := open_text h1 k1
  obtain ⟨p, rfl, hs2⟩ := open_text h2 k2
  clear h0 k0 h1 k1 h2 k2
  have HAW := Lib.hid (awake27_any w hm)
  have HV := Lib.hid hv
  have HM := Lib.hid hm
  have HFE := Lib.hid fun W (hW : Below w.heap.size w W) => few_any l v0 W (hv.below hW)
  by_cases l1 : fewB l = true ∧ dir.length ≤ 100 ∧ p.length ≤ 40
  rotate_left
  · cases hf : fewB l with
    | false =>
      rw [hf] at HFE
      go_enter Tryz.func3, Tryz.ntmps3
      go_wp2_with (first
        | (go_at_call 4; refine HAW.out.mono ?_; rintro e w1 ⟨rfl, hb⟩; have HB1 := Lib.hid hb; clear hb)
        | (go_at_call 5; refine (HFE.out _ HB1.out).mono ?_; rintro e w2 ⟨rfl, hb⟩; have HB2 := Lib.hid (below_then HB1.out hb); clear hb))
      go_ret
      exact ⟨rfl, HB2.out⟩
    | true =>
      rw [hf] at HFE
      by_cases l2 : 100 < dir.length
      · have d1 : decide ((100 : Int) < (dir.length : Int)) = true := decide_eq_true (by omega)
        go_enter Tryz.func3, Tryz.ntmps3
        go_wp2_with (first
          | (go_at_call 4; refine HAW.out.mono ?_; rintro e w1 ⟨rfl, hb⟩; have HB1 := Lib.hid hb; clear hb)
          | (go_at_call 5; refine (HFE.out _ HB1.out).mono ?_; rintro e w2 ⟨rfl, hb⟩; have HB2 := Lib.hid (below_then HB1.out hb); clear hb))
        go_ret
        exact ⟨rfl, HB2.out⟩
      · have d1 := no (show ¬ (100 : Int) < (dir.length : Int) by omega)
        have d2 : decide ((40 : Int) < (p.length : Int)) = true := decide_eq_true (by
          have : ¬ (dir.length ≤ 100 ∧ p.length ≤ 40) := fun q => l1 ⟨hf, q⟩
          omega)
        go_enter Tryz.func3, Tryz.ntmps3
        go_wp2_with (first
          | (go_at_call 4; refine HAW.out.mono ?_; rintro e w1 ⟨rfl, hb⟩; have HB1 := Lib.hid hb; clear hb)
          | (go_at_call 5; refine (HFE.out _ HB1.out).mono ?_; rintro e w2 ⟨rfl, hb⟩; have HB2 := Lib.hid (below_then HB1.out hb); clear hb))
        go_ret
        exact ⟨rfl, HB2.out⟩
  obtain ⟨hf, l2, l3⟩ := l1
  rw [hf] at HFE
  have d1 := no (show ¬ (100 : Int) < (dir.length : Int) by omega)
  have d2 := no (show ¬ (40 : Int) < (p.length : Int) by omega)
  unfold fewB at hf
  rw [Bool.and_eq_true, decide_eq_true_eq, List.all_eq_true] at hf
  obtain ⟨hl20, hfl⟩ := hf
  have HOF := Lib.hid fun W (hW : Below w.heap.size w W) => of_any l v0 W (hv.below hW) (hm.below hW) (by omega) (fun f hf => by have := of_decide_eq_true (hfl f hf); omega)
  unfold OfP at HOF
  have HRW := Lib.hid fun W (hW : Below w.heap.size w W) => rows_any l v0 W (hv.below hW) (by omega) (fun f hf => by have := of_decide_eq_true (hfl f hf); omega)
  have hol := ofF_len l.length l
  have hom := ofF_mem l.length l
  rw [List.take_length] at hol hom
  have HXL := Lib.hid (show ∀ f ∈ ofF l, f.path.length ≤ 100 from fun f hf => of_decide_eq_true (hfl f (hom f hf)))
  have HX := Lib.hid (show (ofF l).length ≤ 20 by omega)
  clear hol hom hfl hv hm hxl
  generalize ofF l = x at *
  have HG := Lib.hid fun W (hW : Below w.heap.size w W) (b0 tb : Nat) nb mp (h : TreeAt W b0 tb x nb mp) => globPaths_any W b0 tb x nb mp dir p h (HM.out.below hW) (by omega) (by omega) (by have := HX.out; omega) (fun f hf => by have := HXL.out f hf; omega) (globG_len h.ok HX.out (by omega))
  have HRG := Lib.hid fun (hr : RowF x) (u : Value) W (h : Sl W flC 2 u x) => refPathsG_any hr (by have := HX.out; omega) (fun f hf => by have := HXL.out f hf; omega) dir p u W h (by omega) (by omega) (globG_len hr HX.out (by omega))
  have HSM := Lib.hid same22
  go_enter Tryz.func3, Tryz.ntmps3
  go_wp2_with (first
    | (go_at_call 4; refine HAW.out.mono ?_; rintro e w1 ⟨rfl, hb⟩; have HB1 := Lib.hid hb; clear hb)
    | (go_at_call 5; refine (HFE.out _ HB1.out).mono ?_; rintro e w2 ⟨rfl, hb⟩; have HB2 := Lib.hid (below_then HB1.out hb); clear hb)
    | (go_at_call 8; (with_reducible refine (HOF.out _ HB2.out).mono ?_); rintro e w3 ⟨rfl, ⟨nb, mp, ht⟩, hb⟩; have HT := Lib.hid ht; have HB3 := Lib.hid (below_then HB2.out hb); clear ht hb)
    | (go_at_call 7; (with_reducible refine (HG.out _ HB3.out _ _ nb mp HT.out).mono ?_); rintro e w4 ⟨v4, rfl, ho, hb⟩; have HO := Lib.hid ho; have HB4 := Lib.hid (below_then HB3.out hb); clear ho hb)
    | (go_at_call 10; refine (HRW.out _ HB4.out).mono ?_; rintro e w5 ⟨v5, rfl, ho, hb⟩; have HO5 := Lib.hid (HO.out.below hb); have HR5 := Lib.hid ho; have HB5 := Lib.hid (below_then HB4.out hb); clear ho hb)
    | (go_at_call 9; refine (HRG.out HT.out.ok _ _ HR5.out).mono ?_; rintro e w6 ⟨v6, rfl, ho, hb⟩; have HO6 := Lib.hid (HO5.out.below hb); have HR6 := Lib.hid ho; have HB6 := Lib.hid (below_then HB5.out hb); clear ho hb)
    | (go_at_call 6; refine (HSM.out (pathsG x dir p) (pathsG x dir p) _ _ _ (HO6.out.sl (fun _ _ => rfl) rfl) HR6.out).mono ?_; rintro e w7 ⟨rfl, hb⟩; have HB7 := Lib.hid (below_then HB6.out hb); clear hb))
  go_ret
  exact ⟨by simp, HB7.out⟩
end Go.Proofs.YtnecmpgcjgkheaaGreat.globPaths
