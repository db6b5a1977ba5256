/-
  The walk of the law SpecPlay: it returns true, whatever its arguments. Conditions: none (arguments as the row reads them). (Printed by gen_play20.py.)
-/
import Derived.Test.YtljinmfkogmmlaaGreatSpecPlayKit
namespace Go.Proofs.YtljinmfkogmmlaaGreat.specPlay
open Go.ChangeShapes Go.WideShapes Go.Deep Go.ChangeAt Go.RowKit Tab Mc Pa Spc Quo
set_option linter.unusedSimpArgs false
set_option linter.unusedVariables false
set_option maxRecDepth 100000
set_option maxHeartbeats 16000000 in
theorem walk {H : Type} (enc : TypeId × Value → H) (w : World) (base : Nat) {v0 v1 : Value} {d0 d1 : DataW H} {p0 p1 : List MemPlace}
    (h0 : DataW.Trod enc Tryz.prog w 0 (fun _ => true) true 47 v0 d0 p0) (k0 : Value.okWide Tryz.prog w .any base 47 v0)
    (h1 : DataW.Trod enc Tryz.prog w 0 (fun _ => true) true 9 v1 d1 p1) (k1 : Value.okWide Tryz.prog w .any base 9 v1) :
    Calls Tryz.prog 6 #[v0, v1] w fun e w' => e = .returned (.bool true) ∧ Below w.heap.size w w' := by
  obtain ⟨l, hv, hok, hxl⟩ := open_sacts h0 k0
  obtain ⟨cm, rfl, hcm⟩ := open_text h1 k1
  clear h0 k0 h1 k1
  have HAW := Lib.hid fun w => awake20_any w
  have HOK := Lib.hid hok
  obtain ⟨A0, c0, rfl, -, -, -, hA⟩ := hv
  have HA := Lib.hid hA
  clear hA hok
  by_cases l1 : 20 < l.length
  · have n1 : (20 : Int) < (l.length : Int) := by omega
    clear l1
    go_enter Tryz.func6, Tryz.ntmps6
    go_wp2_with (go_at_call 7; refine (HAW.out _).mono ?_; rintro e w1 ⟨rfl, hb⟩; have HB := Lib.hid hb; clear hb)
    go_ret
    exact ⟨rfl, HB.out⟩
  have n1 : ¬ (20 : Int) < (l.length : Int) := by omega
  by_cases l2 : 100 < cm.length
  · have n2 : (100 : Int) < (cm.length : Int) := by omega
    clear l1 l2
    go_enter Tryz.func6, Tryz.ntmps6
    go_wp2_with (go_at_call 7; refine (HAW.out _).mono ?_; rintro e w1 ⟨rfl, hb⟩; have HB := Lib.hid hb; clear hb)
    go_ret
    exact ⟨rfl, HB.out⟩
  have n2 : ¬ (100 : Int) < (cm.length : Int) := by omega
  have HNW := Lib.hid fun w => new20_any w
  go_enter Tryz.func6, Tryz.ntmps6
  go_wp2_with (first
    | (go_at_call 7; refine (HAW.out _).mono ?_; rintro e w1 ⟨rfl, hb⟩; have HB1 := Lib.hid hb; clear hb)
    | (go_at_call 14; refine (HNW.out _).mono ?_; rintro e w2 ⟨rfl, hr, hb⟩; have HR2 := Lib.hid hr; have HB2 := Lib.hid (below_then HB1.out hb); clear hr hb))
  obtain ⟨rb, hrb⟩ : ∃ rb, rb = w1.heap.size := ⟨_, rfl⟩
  have hz0 : w.heap.size ≤ rb := by rw [hrb]; exact HB1.out.size
  obtain ⟨A, hA⟩ : ∃ A, A = rb + 1 := ⟨_, rfl⟩
  have HR2 : Hid (RegAt w2 A A rb (.slice none 0 0) []) := by rw [hA, hrb]; exact HR2
  have HP0 : Hid (SPI w w2 rb A A (.slice none 0 0) [] (.slice none 0 0) [] 0) := ⟨HR2.out, Own.nil _ _ _, fun j h => (by cases h), fun e he => (by cases he), fun e he => (by cases he), List.Perm.refl _, HB2.out, hz0, Nat.le_refl _⟩
  rw [← hrb]
  clear hrb hA HB1 HNW HAW HR2 HB2 hz0
  go_loopw [6, 7] (fun o i wr => ∃ (k N : Nat) (u : Value) (zs : List Nm) (uv : Value) (us : List Nm), k ≤ l.length ∧ i = .int .i64 k ∧ uv = o ∧ Hid (SPI w wr rb A N u zs uv us k)) (fun _ i _ => l.length - (intOf i).toNat)
  case atStart => exact ⟨0, A, _, [], _, [], by omega, rfl, rfl, HP0⟩
  case round =>
    obtain ⟨k, N, u, zs, uv, us, hk, rfl, rfl, HP⟩ := hrel
    clear HP0
    by_cases hlt : k < l.length
    rotate_left
    · have d0 : ¬ (k : Int) < (l.length : Int) := by omega
      go_wp2
      go_ret
      exact ⟨rfl, HP.out.b⟩
    obtain ⟨b, off, rfl, hb, hc⟩ := HA.out (by omega)
    obtain ⟨x, hxm⟩ := get_some hlt
    have HC : Hid (∀ W, Below w.heap.size w W → (W.cell? ⟨b, off + k * 8, none⟩ = some (.int .i64 x.k) ∧ W.cell? ⟨b, off + k * 8 + 1, none⟩ = some (.string (B x.e.n)) ∧ W.cell? ⟨b, off + k * 8 + 2, none⟩ = some x.e.va ∧ W.cell? ⟨b, off + k * 8 + 2 + 1, none⟩ = some x.e.vw ∧ W.cell? ⟨b, off + k * 8 + 2 + 2, none⟩ = some (.string (B x.e.x.g)) ∧ W.cell? ⟨b, off + k * 8 + 2 + 3, none⟩ = some (.string (B x.e.x.x)) ∧ W.cell? ⟨b, off + k * 8 + 2 + 4, none⟩ = some (.string (B x.e.x.p)) ∧ W.cell? ⟨b, off + k * 8 + 2 + 5, none⟩ = some (.string (B x.e.x.s))) ∧ b < W.heap.size) := fun W hW => by
      have hG : ∀ j u, (sactC x)[j]? = some u → W.cell? ⟨b, off + k * 8 + j, none⟩ = some u := fun j u hj => (hW.cell (p := ⟨b, off + k * 8 + j, none⟩) hb).trans (hc k _ hxm j _ hj)
      exact ⟨⟨by simpa using hG 0 _ rfl, hG 1 _ rfl, hG 2 _ rfl, hG 3 _ rfl, hG 4 _ rfl, hG 5 _ rfl, hG 6 _ rfl, hG 7 _ rfl⟩, Nat.lt_of_lt_of_le hb hW.size⟩
    obtain ⟨⟨e0, e1, e2, e3, e4, e5, e6, e7⟩, e8⟩ := HC.out _ HP.out.b
    haveI : Old wr b := ⟨e8⟩
    have k0 : (0 : Int) ≤ (k : Int) := by omega
    have k1 : (k : Int) < (l.length : Int) := by omega
    obtain ⟨ha, hw, la, lw⟩ := HOK.out x (List.mem_of_getElem? hxm)
    have HSA := Lib.hid ha
    have HSW := Lib.hid hw
    have HLI := Lib.hid fun W (hb : Below w.heap.size w W) => light_any x.e.va x.e.vw x.e.x W (ha.below hb) (hw.below hb) la lw
    have hul := HP.out.k
    have HPL := Lib.hid fun s => pair_look HP.out.p HP.out.r.r s
    obtain ⟨Aa, ca, hva, _⟩ := ha
    obtain ⟨Aw, cw, hvw, _⟩ := hw
    obtain ⟨kd, ⟨s, xa, xw, xx⟩⟩ := x
    dsimp only at *
    subst hva hvw
    clear hc hxm
    by_cases g1 : 100 < s.length
    · have m1 : (100 : Int) < (s.length : Int) := by omega
      clear g1
      go_wp2
      go_ret
      exact ⟨rfl, HP.out.b⟩
    have m1 : ¬ (100 : Int) < (s.length : Int) := by omega
    cases hl : lightB xx with
    | false =>
      rw [hl] at HLI
      go_wp2_with (go_at_call 11; refine (HLI.out _ HP.out.b).mono ?_; rintro e w3 ⟨rfl, hb⟩; have HB3 := Lib.hid (below_then HP.out.b hb); clear hb)
      go_ret
      exact ⟨rfl, HB3.out⟩
    | true =>
    rw [hl] at HLI
    have la2 : xx.a.length ≤ 20 ∧ xx.w.length ≤ 20 := by
      unfold lightB at hl
      simp only [Bool.and_eq_true, decide_eq_true_eq] at hl
      exact ⟨hl.1.1.1.1.1.1, hl.1.1.1.1.1.2⟩
    have HLB := Lib.hid hl
    obtain ⟨A1, c1, B1, d1, n, hgv, hgn, hg01, hgsa, hgsw, -, -⟩ := pair_val HP.out (HPL.out s)
    have HGE := Lib.hid fun W (hW : Below wr.heap.size wr W) => rGet20_any us uv s W (HP.out.sl hW) (by omega) HP.out.forms
    rw [hgv] at HGE
    clear hl hgv hgsa hgsw
    generalize (gotN zs s).1 = y1 at *
    have HTN := Lib.hid (show (n == 1) = thereY (ysOf zs) s by
      rw [hgn, got_look HP.out.r.r]
      exact (look_there (rises_ys.1 HP.out.r.r) s).1)
    clear hgn
    go_upto_block 2 with (first
      | (go_at_call 11; refine (HLI.out _ HP.out.b).mono ?_; rintro e w3 ⟨rfl, hb⟩; have HB3 := Lib.hid hb; clear hb)
      | (go_at_call 20; refine (HGE.out _ HB3.out).mono ?_; rintro e w4 ⟨rfl, hb⟩; have HB4 := Lib.hid (below_then HB3.out (below_then hb (below_alloc (Below.refl _ _) (.cells #[.slice A1 y1.a.length c1, .slice B1 y1.w.length d1, .string (B y1.g), .string (B y1.x), .string (B y1.p), .string (B y1.s)] 26)))); have hWW := HB4.out; clear e0 e1 e2 e3 e4 e5 e6 e7 e8; obtain ⟨⟨e0, e1, e2, e3, e4, e5, e6, e7⟩, e8⟩ := HC.out w4 (below_then HP.out.b (below_then HB3.out hb)); haveI : Old w4 b := ⟨e8⟩; clear hb))
    clear e0 e1 e2 e3 e4 e5 e6 e7 e8
    generalize World.alloc w4 _ = W4 at *
    have HP4 := Lib.hid (HP.out.below hWW)
    clear hWW HB3 HB4 HLI HGE
    obtain ⟨⟨e0, e1, e2, e3, e4, e5, e6, e7⟩, e8⟩ := HC.out _ HP4.out.b
    haveI : Old W4 b := ⟨e8⟩
    go_cut [6] (fun s6 wx => ∃ (N' : Nat) (u' : Value) (zs' : List Nm) (uv' : Value) (us' : List Nm), uv' = s6 ∧ Hid (SPI w wx rb A N' u' zs' uv' us' (k + 1)))
    case first =>
      clear HPL
      have hzl := HP4.out.len
      have hkd : kd = 0 ∨ kd = 1 ∨ (kd ≠ 0 ∧ kd ≠ 1) := by omega
      rcases hkd with rfl | rfl | ⟨m2, m3⟩
      · as_aux_lemma =>
          by_cases hc : chk20 s xx = 0
          · have HMY := Lib.hid (show spMay s = true by
              cases h : spMay s
              · unfold chk20 at hc; rw [h] at hc; simp at hc
              · rfl)
            have HRS := Lib.hid (rSet_ok us uv s (.slice Aa xx.a.length ca) (.slice Aw xx.w.length cw) xx W4 (by omega) (HP4.out.sl (Below.refl _ _)) (by omega) HP4.out.one (fun e he => ⟨(HP4.out.s e he).1.below HP4.out.b, (HP4.out.s e he).2.below HP4.out.b⟩) (HSA.out.below HP4.out.b) (HSW.out.below HP4.out.b) (by omega) (by omega) hc)
            have HST := Lib.hid fun W (hW : Below W4.heap.size W4 W) => set20_any W A N rb u zs s (.slice Aa xx.a.length ca) (.slice Aw xx.w.length cw) xx (HP4.out.r.below hW) (by omega) (by omega) (HSA.out.below (below_then HP4.out.b hW)) (HSW.out.below (below_then HP4.out.b hW)) (by omega) (by omega)
            rw [hc, if_pos rfl] at HST
            unfold SetP at HST
            unfold RSetP at HRS
            clear hc hg01 HTN
            go_wp2_with (first
              | (go_at_call 21; refine HRS.out.mono ?_; rintro e5 w5 ⟨v5, rfl, ho5, hd5, hb5⟩; have HO5 := Lib.hid ho5; have HD5 := Lib.hid hd5; have HB5 := Lib.hid hb5; clear e0 e1 e2 e3 e4 e5 e6 e7 e8; obtain ⟨⟨e0, e1, e2, e3, e4, e5, e6, e7⟩, e8⟩ := HC.out _ (below_then HP4.out.b hb5); haveI : Old w5 b := ⟨e8⟩; clear ho5 hd5 hb5)
              | (go_at_call 15; refine (HST.out _ HB5.out).mono ?_; rintro e6 w6 ⟨rfl, v6, N6, z6, hr6, hn6, hy6, hk6, hat6⟩; have HP6 := Lib.hid (HP4.out.set (e := ⟨s, .slice Aa xx.a.length ca, .slice Aw xx.w.length cw, xx⟩) ⟨HSA.out, HSW.out⟩ ⟨HLB.out, HMY.out⟩ HB5.out HO5.out HD5.out hr6 hn6 hy6 hk6 hat6); clear hr6 hn6 hy6 hk6 hat6))
            go_meet
            exact ⟨_, _, _, _, _, rfl, HP6⟩
          · have HRS := Lib.hid (rSet_bad us uv s (.slice Aa xx.a.length ca) (.slice Aw xx.w.length cw) xx W4 (by omega) (HSA.out.below HP4.out.b) (HSW.out.below HP4.out.b) (by omega) (by omega) hc)
            have HST := Lib.hid fun W (hW : Below W4.heap.size W4 W) => set_bad20 W A N rb u zs s (.slice Aa xx.a.length ca) (.slice Aw xx.w.length cw) xx (HP4.out.r.below hW) (by omega) (HSA.out.below (below_then HP4.out.b hW)) (HSW.out.below (below_then HP4.out.b hW)) (by omega) (by omega) hc
            unfold SetP at HST
            generalize chk20 s xx = er at *
            clear hc hg01 HTN
            go_wp2_with (first
              | (go_at_call 21; refine HRS.out.mono ?_; rintro e5 w5 ⟨rfl, hb5⟩; have HB5 := Lib.hid hb5; clear e0 e1 e2 e3 e4 e5 e6 e7 e8; obtain ⟨⟨e0, e1, e2, e3, e4, e5, e6, e7⟩, e8⟩ := HC.out _ (below_then HP4.out.b hb5); haveI : Old w5 b := ⟨e8⟩; clear hb5)
              | (go_at_call 15; refine (HST.out _ HB5.out).mono ?_; rintro e6 w6 ⟨rfl, v6, N6, z6, hr6, hn6, hy6, hk6, hat6⟩; have HP6 := Lib.hid (HP4.out.kept HB5.out hr6 hn6 hy6 hk6 hat6); clear hr6 hn6 hy6 hk6 hat6))
            go_meet
            exact ⟨_, _, _, _, _, rfl, HP6⟩
      · as_aux_lemma =>
          have HRM := Lib.hid (remove20_any W4 A N rb u zs s HP4.out.r (by omega))
          have HRR := Lib.hid fun W (o : Own W w.heap.size 7 uv us.length (us.flatMap namC)) => rRemove_any us uv s W (o.sl (fun _ _ => rfl) rfl) (by omega) HP4.out.one
          unfold SetP at HRM
          unfold RowN at HRR
          clear e0 e1 e2 e3 e4 e5 e6 e7 e8
          rcases hg01 with rfl | rfl
          · have ht : thereY (ysOf zs) s = false := HTN.out.symm
            rw [ht, if_neg (by simp)] at HRM
            clear ht HTN
            go_wp2_with (first
              | (go_at_call 22; refine HRM.out.mono ?_; rintro e6 w6 ⟨rfl, v6, N6, z6, hr6, hn6, hy6, hk6, hat6⟩; have HR6 := Lib.hid hr6; have HN6 := Lib.hid hn6; have HY6 := Lib.hid hy6; have HK6 := Lib.hid hk6; clear hr6 hn6 hy6 hk6 hat6)
              | (go_at_call 23; refine (HRR.out _ (HP4.out.kept_row HK6.out)).mono ?_; rintro e7 w7 ⟨v7, rfl, ho7, hd7, hb7⟩; have HP7 := Lib.hid (HP4.out.remove HR6.out HN6.out HY6.out HK6.out ho7 hd7 hb7); clear ho7 hd7 hb7))
            go_meet
            exact ⟨_, _, _, _, _, rfl, HP7⟩
          · have ht : thereY (ysOf zs) s = true := HTN.out.symm
            rw [ht, if_pos rfl] at HRM
            clear ht HTN
            go_wp2_with (first
              | (go_at_call 22; refine HRM.out.mono ?_; rintro e6 w6 ⟨rfl, v6, N6, z6, hr6, hn6, hy6, hk6, hat6⟩; have HR6 := Lib.hid hr6; have HN6 := Lib.hid hn6; have HY6 := Lib.hid hy6; have HK6 := Lib.hid hk6; clear hr6 hn6 hy6 hk6 hat6)
              | (go_at_call 23; refine (HRR.out _ (HP4.out.kept_row HK6.out)).mono ?_; rintro e7 w7 ⟨v7, rfl, ho7, hd7, hb7⟩; have HP7 := Lib.hid (HP4.out.remove HR6.out HN6.out HY6.out HK6.out ho7 hd7 hb7); clear ho7 hd7 hb7))
            go_meet
            exact ⟨_, _, _, _, _, rfl, HP7⟩
      · have q2 : (kd == 0) = false := by simpa using m2
        have q3 : (kd == 1) = false := by simpa using m3
        go_wp2_with fail
        go_meet
        exact ⟨N, u, zs, _, us, rfl, HP4.out.more⟩
    case rest =>
      clear HPL HP HP4 HSA HSW HTN hg01
      as_aux_lemma =>
        obtain ⟨N', u', zs', uv', us', rfl, HP⟩ := hcut
        have hzl := HP.out.len
        have hul := HP.out.k
        obtain ⟨A1, c1, B1, d1, n, hgv, hgn, hg01, hgsa, hgsw, hla, hlw⟩ := pair_val HP.out (pair_look HP.out.p HP.out.r.r s)
        obtain ⟨A2, c2, B2, d2, m, hfv, hfn, hf01, hfsa, hfsw, hfa, hfw⟩ := pair_val HP.out (pair_for HP.out.p HP.out.r.r (fun e he => (HP.out.l e he).2) cm)
        have HG := Lib.hid fun W (hW : Below wc.heap.size wc W) => get_any W A N' rb u' zs' s (HP.out.r.below hW) (by omega) HP.out.light
        have HGT := Lib.hid fun t W (hW : Below wc.heap.size wc W) => rGet20_any us' uv' t W (HP.out.sl hW) (by omega) HP.out.forms
        have HGE := Lib.hid fun W hW => HGT.out s W hW
        rw [hgv] at HGE
        have HF := Lib.hid fun W (hW : Below wc.heap.size wc W) => for_any W A N' rb u' zs' cm (HP.out.r.below hW) (by omega) HP.out.light (by omega)
        have HFE := Lib.hid fun W (hW : Below wc.heap.size wc W) => rFor_any us' uv' cm W (HP.out.sl hW) (by omega) (by omega) HP.out.forms
        rw [hfv] at HFE
        have HNM := Lib.hid fun W (hW : Below wc.heap.size wc W) => names20_any W A N' rb u' zs' (HP.out.r.below hW) (by omega)
        have HNT := Lib.hid fun t (ht : t ∈ zs'.map Nm.n) => name_there HP.out ht
        have HNR := Lib.hid fun j p t (hp : (zs'.map Nm.n)[j]? = some p) (ht : (zs'.map Nm.n)[j + 1]? = some t) => names_rise HP.out.r.r hp ht
        have hnl : (zs'.map Nm.n).length = us'.length := by rw [List.length_map]; exact hzl
        obtain ⟨Au, cu, huv⟩ : ∃ A c, uv' = .slice A us'.length c := by
          obtain ⟨A, c, h, -⟩ := HP.out.o.form0
          exact ⟨A, c, h⟩
        unfold GetP at HG HF
        unfold NamesP at HNM
        clear hgv hfv
        generalize forQ (gotN zs') cm = q2 at *
        generalize gotN zs' s = q1 at *
        generalize zs'.map Nm.n = ns at *
        obtain ⟨y1, b1⟩ := q1
        obtain ⟨y2, b2⟩ := q2
        dsimp only at *
        have HS1 := Lib.hid fun (t1 t2 : Value) W (h1 : Sl W numC 1 t1 y1.a) (h2 : Sl W strC 1 t2 y1.w) (hb : Below wc.heap.size wc W) => same20_any t1 t2 (.slice A1 y1.a.length c1) (.slice B1 y1.w.length d1) y1 y1 W h1 h2 (hgsa.below (below_then HP.out.b hb)) (hgsw.below (below_then HP.out.b hb)) (by omega) (by omega)
        have HS2 := Lib.hid fun (t1 t2 : Value) W (h1 : Sl W numC 1 t1 y2.a) (h2 : Sl W strC 1 t2 y2.w) (hb : Below wc.heap.size wc W) => same20_any t1 t2 (.slice A2 y2.a.length c2) (.slice B2 y2.w.length d2) y2 y2 W h1 h2 (hfsa.below (below_then HP.out.b hb)) (hfsw.below (below_then HP.out.b hb)) (by omega) (by omega)
        rw [sameB_self] at HS1 HS2
        have b1b : (b1 != b1) = false := by simp
        have b2b : (b2 != b2) = false := by simp
        have m4 := num_eqq hnl
        subst huv
        clear hgsa hgsw hfsa hfsw hg01 hf01 hla hlw hfa hfw
        go_upto_region 31 with (first
          | (go_at_call 16; refine (HG.out _ (Below.refl _ _)).mono ?_; rintro e5 w5 ⟨va5, vw5, rfl, ha5, hw5, hb5⟩; obtain ⟨C5, k5, rfl, -⟩ := ha5.form0; obtain ⟨D5, j5, rfl, -⟩ := hw5.form0; have HA5 := Lib.hid ha5; have HW5 := Lib.hid hw5; have HB5 := Lib.hid hb5; clear ha5 hw5 hb5)
          | (go_at_call 20; refine (HGE.out _ (below_alloc HB5.out _)).mono ?_; rintro e6 w6 ⟨rfl, hb6⟩; have hx6 := (BoxN.new w5 [.slice C5 y1.a.length k5, .slice D5 y1.w.length j5, .string (B y1.g), .string (B y1.x), .string (B y1.p), .string (B y1.s)] 26).below hb6; have HX6 := Lib.hid hx6; have HQ6 := Lib.hid (below_then (below_alloc (Below.refl w5.heap.size w5) _) hb6); obtain ⟨⟨r0, r1, r2, r3, r4, r5⟩, -⟩ := box6 hx6; haveI : Old w6 w5.heap.size := ⟨hx6.lt⟩; clear hb6 hx6)
          | (go_at_call 10; refine (HS1.out (.slice C5 y1.a.length k5) (.slice D5 y1.w.length j5) _ ((HA5.out.below (below_alloc HQ6.out _)).sl (fun _ _ => rfl) rfl) ((HW5.out.below (below_alloc HQ6.out _)).sl (fun _ _ => rfl) rfl) (below_then HB5.out (below_alloc HQ6.out _))).mono ?_; rintro e7 w7 ⟨rfl, hb7⟩; have HX7a := Lib.hid ((HX6.out.below (below_alloc (Below.refl _ _) _)).below hb7); have HX7b := Lib.hid ((BoxN.new w6 [.slice A1 y1.a.length c1, .slice B1 y1.w.length d1, .string (B y1.g), .string (B y1.x), .string (B y1.p), .string (B y1.s)] 26).below hb7); have HB7 := Lib.hid (below_then HB5.out (below_then (below_alloc HQ6.out _) hb7)); have hne : w5.heap.size ≠ w6.heap.size := Nat.ne_of_lt HX6.out.lt; have hge : wc.heap.size ≤ w5.heap.size := HB5.out.size; have hge2 : wc.heap.size ≤ w6.heap.size := Nat.le_trans hge HQ6.out.size; clear hb7 r0 r1 r2 r3 r4 r5))
        clear HG HGE HS1 HA5 HW5 HB5 HX6 HQ6 b1b hgn
        generalize w5.heap.size = n5 at *
        generalize w6.heap.size = n6 at *
        have hne2 : n6 ≠ n5 := fun e => hne e.symm
        have HL7 := Lib.hid (And.intro HX7a.out.lt HX7b.out.lt)
        go_upto_region 32 with (go_at_call 19; refine (HF.out _ HB7.out).mono ?_; rintro e8 w8 ⟨va8, vw8, rfl, ha8, hw8, hb8⟩; obtain ⟨C8, k8, rfl, -⟩ := ha8.form0; obtain ⟨D8, j8, rfl, -⟩ := hw8.form0; have HA8 := Lib.hid ha8; have HW8 := Lib.hid hw8; have HB8 := Lib.hid (below_then HB7.out hb8); have HX8a := Lib.hid (HX7a.out.below hb8); have HX8b := Lib.hid (HX7b.out.below hb8); obtain ⟨⟨r0, r1, r2, r3, r4, r5⟩, f0, f1, f2, f3, f4, f5⟩ := box6 HX8a.out; haveI : Old w8 n5 := ⟨HX8a.out.lt⟩; clear ha8 hw8 hb8)
        go_cut [17] from 115 to 148 (fun s17 wx => s17 = .int .i64 m ∧ Hid (Below wc.heap.size wc wx) ∧ Hid (BoxN wx n5 [.slice C8 y2.a.length k8, .slice D8 y2.w.length j8, .string (B y2.g), .string (B y2.x), .string (B y2.p), .string (B y2.s)]) ∧ Hid (BoxN wx n6 [.slice A2 y2.a.length c2, .slice B2 y2.w.length d2, .string (B y2.g), .string (B y2.x), .string (B y2.p), .string (B y2.s)]) ∧ Hid (Own wx w7.heap.size 1 (.slice C8 y2.a.length k8) y2.a.length (y2.a.flatMap numC)) ∧ Hid (Own wx w7.heap.size 1 (.slice D8 y2.w.length j8) y2.w.length (y2.w.flatMap strC)))
        case first =>
          go_wp2_with (go_at_call 24; refine (HFE.out _ (below_keeps HB8.out (box_fill6 HX8a.out (.slice C8 y2.a.length k8) (.slice D8 y2.w.length j8) (.string (B y2.g)) (.string (B y2.x)) (.string (B y2.p)) (.string (B y2.s))).2 (fun k e => by omega))).mono ?_; rintro e9 w9 ⟨rfl, hb9⟩; have HX9a := Lib.hid ((box_fill6 HX8a.out (.slice C8 y2.a.length k8) (.slice D8 y2.w.length j8) (.string (B y2.g)) (.string (B y2.x)) (.string (B y2.p)) (.string (B y2.s))).1.below hb9); have HX9b := Lib.hid ((HX8b.out.keeps (box_fill6 HX8a.out (.slice C8 y2.a.length k8) (.slice D8 y2.w.length j8) (.string (B y2.g)) (.string (B y2.x)) (.string (B y2.p)) (.string (B y2.s))).2 hne2).below hb9); have HB9 := Lib.hid (below_then (below_keeps HB8.out (box_fill6 HX8a.out (.slice C8 y2.a.length k8) (.slice D8 y2.w.length j8) (.string (B y2.g)) (.string (B y2.x)) (.string (B y2.p)) (.string (B y2.s))).2 (fun k e => by omega)) hb9); have HA9 := Lib.hid ((own_keeps2 HA8.out (box_fill6 HX8a.out (.slice C8 y2.a.length k8) (.slice D8 y2.w.length j8) (.string (B y2.g)) (.string (B y2.x)) (.string (B y2.p)) (.string (B y2.s))).2 (fun k e => by have := HL7.out.1; omega)).below hb9); have HW9 := Lib.hid ((own_keeps2 HW8.out (box_fill6 HX8a.out (.slice C8 y2.a.length k8) (.slice D8 y2.w.length j8) (.string (B y2.g)) (.string (B y2.x)) (.string (B y2.p)) (.string (B y2.s))).2 (fun k e => by have := HL7.out.1; omega)).below hb9); clear r0 r1 r2 r3 r4 r5 f0 f1 f2 f3 f4 f5; obtain ⟨⟨r0, r1, r2, r3, r4, r5⟩, f0, f1, f2, f3, f4, f5⟩ := box6 HX9b.out; obtain ⟨⟨t0, t1, t2, t3, t4, t5⟩, -⟩ := box6 HX9a.out; haveI : Old w9 n5 := ⟨HX9a.out.lt⟩; haveI : Old w9 n6 := ⟨HX9b.out.lt⟩; clear hb9)
          go_meet
          exact ⟨rfl, Lib.hid (below_keeps HB9.out (box_fill6 HX9b.out (.slice A2 y2.a.length c2) (.slice B2 y2.w.length d2) (.string (B y2.g)) (.string (B y2.x)) (.string (B y2.p)) (.string (B y2.s))).2 (fun k e => by omega)), Lib.hid (HX9a.out.keeps (box_fill6 HX9b.out (.slice A2 y2.a.length c2) (.slice B2 y2.w.length d2) (.string (B y2.g)) (.string (B y2.x)) (.string (B y2.p)) (.string (B y2.s))).2 hne), Lib.hid (box_fill6 HX9b.out (.slice A2 y2.a.length c2) (.slice B2 y2.w.length d2) (.string (B y2.g)) (.string (B y2.x)) (.string (B y2.p)) (.string (B y2.s))).1, Lib.hid (own_keeps2 HA9.out (box_fill6 HX9b.out (.slice A2 y2.a.length c2) (.slice B2 y2.w.length d2) (.string (B y2.g)) (.string (B y2.x)) (.string (B y2.p)) (.string (B y2.s))).2 (fun k e => by have := HL7.out.2; omega)), Lib.hid (own_keeps2 HW9.out (box_fill6 HX9b.out (.slice A2 y2.a.length c2) (.slice B2 y2.w.length d2) (.string (B y2.g)) (.string (B y2.x)) (.string (B y2.p)) (.string (B y2.s))).2 (fun k e => by have := HL7.out.2; omega))⟩
        case rest =>
        clear HF HFE HX7a HX7b HB7 HA8 HW8 HB8 HX8a HX8b
        obtain ⟨rfl, HBF, HXa, HXb, HAF, HWF⟩ := hcut
        clear r0 r1 r2 r3 r4 r5 f0 f1 f2 f3 f4 f5
        obtain ⟨⟨r0, r1, r2, r3, r4, r5⟩, -⟩ := box6 HXb.out
        obtain ⟨⟨t0, t1, t2, t3, t4, t5⟩, -⟩ := box6 HXa.out
        haveI : Old wc n5 := ⟨HXa.out.lt⟩
        haveI : Old wc n6 := ⟨HXb.out.lt⟩
        refine ‹∀ (a : Act) (w : World), Code.wp Tryz.prog _ _ a w → _› _ _ ?_
        go_wp2_with (first
          | (go_at_call 10; refine (HS2.out (.slice C8 y2.a.length k8) (.slice D8 y2.w.length j8) _ (HAF.out.sl (fun _ _ => rfl) rfl) (HWF.out.sl (fun _ _ => rfl) rfl) HBF.out).mono ?_; rintro e10 w10 ⟨rfl, hb10⟩; have HB10 := Lib.hid (below_then HBF.out hb10); clear hb10 r0 r1 r2 r3 r4 r5 t0 t1 t2 t3 t4 t5)
          | (go_at_call 18; refine (HNM.out _ HB10.out).mono ?_; rintro e11 w11 ⟨v11, rfl, ho11, hb11⟩; obtain ⟨C11, k11, rfl, -⟩ := ho11.form0; have HO11 := Lib.hid ho11; have HB11 := Lib.hid (below_then HB10.out hb11); clear ho11 hb11))
        clear HS2 HL7 b2b hfn hne hne2 HBF HXa HXb HAF HWF
        clear HNM HB10
        go_loopw [19] (fun i w' => ∃ j : Nat, j ≤ ns.length ∧ i = .int .i64 j ∧ Hid (Below w11.heap.size w11 w')) (fun i _ => ns.length - (intOf i).toNat)
        case atStart => exact ⟨0, by omega, rfl, Lib.hid (Below.refl _ _)⟩
        case round =>
          obtain ⟨j, hj, rfl, HBJ⟩ := hrel
          have HBW := Lib.hid (below_then HB11.out HBJ.out)
          by_cases hjl : j < ns.length
          · have j0 : (0 : Int) ≤ (j : Int) := by omega
            have j1 : (j : Int) < (ns.length : Int) := by omega
            obtain ⟨t, ht⟩ := get_some hjl
            obtain ⟨g, off2, c9, hv9, -, -, -, hcs⟩ := own_at (HO11.out) (by omega)
            injection hv9 with e1 e2 e3
            subst e1 e3
            have hg : g < w11.heap.size := HO11.out.lt g rfl
            have HCS := Lib.hid fun W (hW : Below w11.heap.size w11 W) j t (h : ns[j]? = some t) => (show W.cell? ⟨g, off2 + j, none⟩ = some (.string (B t)) ∧ g < W.heap.size from ⟨(hW.cell (p := ⟨g, off2 + j, none⟩) hg).trans (hcs j t h), Nat.lt_of_lt_of_le hg hW.size⟩)
            clear hcs
            obtain ⟨s0, s1⟩ := HCS.out _ HBJ.out j t ht
            haveI : Old wr g := ⟨s1⟩
            obtain ⟨A3, c3, B3, d3, y3, hgv⟩ := HNT.out t (List.mem_of_getElem? ht)
            have HGV := Lib.hid fun W hW => HGT.out t W hW
            rw [hgv] at HGV
            have OBJ : Hid True := Lib.hid trivial
            clear hgv
            rcases Nat.eq_zero_or_pos j with rfl | hj0
            · rw [Nat.add_zero] at s0
              go_wp2_with (go_at_call 20; refine (HGV.out _ HBW.out).mono ?_; rintro e12 w12 ⟨rfl, hb12⟩; have HB12 := Lib.hid (below_then HBJ.out hb12); clear hb12)
              go_quiet (fail)
              go_wp2
              exact ⟨⟨1, by omega, rfl, Lib.hid (by have := HB12.out; (repeat (first | exact Below.refl _ _ | assumption | with_reducible refine below_alloc ?_ _ | with_reducible refine below_grow ?_ _ | with_reducible refine below_drewN ?_ _ | with_reducible refine below_drew ?_ | with_reducible refine below_setCell ?_ (by first | (dsimp only; omega) | (simp; done) | (simp; omega)) _)))⟩, by simp [intOf]; omega⟩
            · obtain ⟨i, rfl⟩ : ∃ i, j = i + 1 := ⟨j - 1, by omega⟩
              obtain ⟨p, hp⟩ := get_some (show i < ns.length by omega)
              have hls := HNR.out i p t hp ht
              have HPT := Lib.hid hp
              have HTT := Lib.hid ht
              have i0 : (0 : Int) ≤ (i : Int) := by omega
              have i1 : (i : Int) < (ns.length : Int) := by omega
              have i2 : (i : Int) + 1 < (ns.length : Int) := by omega
              have i3 : (0 : Int) ≤ (i : Int) + 1 := by omega
              have i4 := yes (show (0 : Int) < (i : Int) + 1 by omega)
              clear ht hp
              go_wp2_with (go_at_call 20; refine (HGV.out _ HBW.out).mono ?_; rintro e12 w12 ⟨rfl, hb12⟩; have HB12 := Lib.hid (below_then HBJ.out hb12); have hal := below_alloc HB12.out (.cells #[.slice A3 y3.a.length c3, .slice B3 y3.w.length d3, .string (B y3.g), .string (B y3.x), .string (B y3.p), .string (B y3.s)] 26); obtain ⟨x0, x1⟩ := HCS.out _ hal i p HPT.out; obtain ⟨z0, z1⟩ := HCS.out _ hal (i + 1) t HTT.out; haveI : Old w12 g := ⟨(HCS.out _ HB12.out i p HPT.out).2⟩; clear hb12)
              go_quiet (fail)
              go_wp2
              exact ⟨⟨i + 1 + 1, by omega, by go_num, Lib.hid (by have := HB12.out; (repeat (first | exact Below.refl _ _ | assumption | with_reducible refine below_alloc ?_ _ | with_reducible refine below_grow ?_ _ | with_reducible refine below_drewN ?_ _ | with_reducible refine below_drew ?_ | with_reducible refine below_setCell ?_ (by first | (dsimp only; omega) | (simp; done) | (simp; omega)) _)))⟩, by simp [intOf]; omega⟩
          · have j1 : ¬ (j : Int) < (ns.length : Int) := by omega
            have HPE := Lib.hid (HP.out.below (below_then HB11.out HBJ.out))
            go_wp2
            go_roundw
            case rel => exact ⟨k + 1, N', u', zs', _, us', by omega, by go_num, rfl, HPE⟩
            case measure => simp [intOf]; omega
end Go.Proofs.YtljinmfkogmmlaaGreat.specPlay
