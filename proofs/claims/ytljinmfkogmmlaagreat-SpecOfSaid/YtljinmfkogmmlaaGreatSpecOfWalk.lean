/-
  The walk of the law SpecOf: it returns true, whatever its arguments. Conditions: none (arguments as the row reads them).
-/
import Derived.Test.YtljinmfkogmmlaaGreatRegB
import Derived.Test.YtljinmfkogmmlaaGreatSpecE
import Derived.Test.YtljinmfkogmmlaaGreatMid
namespace Go.Proofs.YtljinmfkogmmlaaGreat.specOf
open Go.ChangeShapes Go.WideShapes Go.Deep Go.ChangeAt Go.RowKit Tab Mc Pa Spc Quo
set_option linter.unusedSimpArgs false
set_option linter.unusedVariables false
set_option maxRecDepth 100000
theorem all_snoc (l : List Nm) (k : Nat) (e : Nm) (h : l[k]? = some e) : ∀ P : List UInt8 × Sp → Prop, RisesY (setAll (l.take k)) ∧ (∀ y ∈ setAll (l.take k), P y) → P (e.n, e.x) → RisesY (setAll (l.take (k + 1))) ∧ ∀ y ∈ setAll (l.take (k + 1)), P y := by
  intro P ⟨h1, h2⟩ h3
  rw [setAll_snoc l k e h]
  refine ⟨setC_rises h1 _ _, fun y hy => ?_⟩
  rcases setC_mem h1 hy with ⟨_, rfl⟩ | hy
  · exact h3
  · exact h2 y hy
theorem all_of (l : List Nm) (P : List UInt8 × Sp → Prop) (h : ∀ e ∈ l, P (e.n, e.x)) : RisesY (setAll l) ∧ ∀ y ∈ setAll l, P y := by
  have : ∀ k, k ≤ l.length → RisesY (setAll (l.take k)) ∧ ∀ y ∈ setAll (l.take k), P y := by
    intro k
    induction k with
    | zero => intro _; rw [List.take_zero]; exact ⟨List.Pairwise.nil, fun y hy => by cases hy⟩
    | succ k ih =>
      intro hk
      exact all_snoc l k _ (List.getElem?_eq_getElem (by omega)) P (ih (by omega)) (h _ (List.getElem_mem _))
  have := this l.length (Nat.le_refl _)
  rwa [List.take_length] at this
theorem light_len {x : Sp} (hl : lightB x = true) : x.a.length ≤ 20 ∧ x.w.length ≤ 20 := by
  unfold lightB at hl
  simp only [Bool.and_eq_true, decide_eq_true_eq] at hl
  exact ⟨hl.1.1.1.1.1.1, hl.1.1.1.1.1.2⟩
theorem ys_lens {zs : List Nm} {ys : List (List UInt8 × Sp)} (h : ysOf zs = ys) (hl : ∀ y ∈ ys, y.2.a.length ≤ 20 ∧ y.2.w.length ≤ 20) : ∀ e ∈ zs, e.x.a.length ≤ 1073741824 ∧ e.x.w.length ≤ 1073741824 := fun e he => by
  have := hl (e.n, e.x) (h ▸ List.mem_map.2 ⟨e, he, rfl⟩)
  dsimp only at this
  omega
/-- What is told of a name. -/
def lookQ (ys : List (List UInt8 × Sp)) (s : List UInt8) : Sp × Bool := ((lookY ys s).getD sp0, (lookY ys s).isSome)
theorem got_all {zs : List Nm} {ys : List (List UInt8 × Sp)} (h : ysOf zs = ys) (hr : RisesN zs) : gotN zs = lookQ ys := by
  funext s
  rw [got_look hr, h]
  rfl
theorem look_in {ys : List (List UInt8 × Sp)} (hr : RisesY ys) {k : Nat} {n : List UInt8} (h : (ys.map (·.1))[k]? = some n) : ∃ x, lookQ ys n = (x, true) := by
  rw [List.getElem?_map] at h
  cases hq : ys[k]? with
  | none => rw [hq] at h; cases h
  | some y =>
    rw [hq] at h
    have hn : y.1 = n := Option.some.inj h
    have := (look_mem (rises_ne hr) n y.2).2 (by rw [← hn]; exact List.mem_of_getElem? hq)
    exact ⟨y.2, by unfold lookQ; rw [this]; rfl⟩
set_option maxHeartbeats 8000000 in
theorem walk {H : Type} (enc : TypeId × Value → H) (w : World) (base : Nat) {v0 v1 : Value} {d0 d1 : DataW H} {p0 p1 : List MemPlace}
    (h0 : DataW.Trod enc Tryz.prog w 0 (fun _ => true) true 41 v0 d0 p0) (k0 : Value.okWide Tryz.prog w .any base 41 v0)
    (h1 : DataW.Trod enc Tryz.prog w 0 (fun _ => true) true 9 v1 d1 p1) (k1 : Value.okWide Tryz.prog w .any base 9 v1) :
    Calls Tryz.prog 5 #[v0, v1] w fun e w' => e = .returned (.bool true) ∧ Below w.heap.size w w' := by
  obtain ⟨l, hv, hok, hxl⟩ := open_nams h0 k0
  obtain ⟨cm, rfl, hcm⟩ := open_text h1 k1
  clear h0 k0 h1 k1
  have HAW := Lib.hid fun w => awake20_any w
  have HV := Lib.hid hv
  have HOK := Lib.hid hok
  obtain ⟨A0, c0, rfl, -, -, -, hA⟩ := hv
  have HA := Lib.hid hA
  clear hA hok
  by_cases l1 : 12 < l.length
  · have n1 : (12 : Int) < (l.length : Int) := by omega
    clear l1
    go_enter Tryz.func5, Tryz.ntmps5
    go_wp2_with (go_at_call 7; refine (HAW.out _).mono ?_; rintro e w1 ⟨rfl, hb⟩; have HB := Lib.hid hb; clear hb)
    go_ret
    exact ⟨rfl, HB.out⟩
  have n1 : ¬ (12 : Int) < (l.length : Int) := by omega
  by_cases l2 : 100 < cm.length
  · have n2 : (100 : Int) < (cm.length : Int) := by omega
    clear l1 l2
    go_enter Tryz.func5, Tryz.ntmps5
    go_wp2_with (go_at_call 7; refine (HAW.out _).mono ?_; rintro e w1 ⟨rfl, hb⟩; have HB := Lib.hid hb; clear hb)
    go_ret
    exact ⟨rfl, HB.out⟩
  have n2 : ¬ (100 : Int) < (cm.length : Int) := by omega
  have HNW := Lib.hid fun w => new20_any w
  go_enter Tryz.func5, Tryz.ntmps5
  go_wp2_with (first
    | (go_at_call 7; refine (HAW.out _).mono ?_; rintro e w1 ⟨rfl, hb⟩; have HB1 := Lib.hid hb; clear hb)
    | (go_at_call 14; refine (HNW.out _).mono ?_; rintro e w2 ⟨rfl, hr, hb⟩; have HR2 := Lib.hid hr; have HB2 := Lib.hid (below_then HB1.out hb); clear hr hb))
  obtain ⟨rb, hrb⟩ : ∃ rb, rb = w1.heap.size := ⟨_, rfl⟩
  have HZ := Lib.hid (show w.heap.size ≤ rb by rw [hrb]; exact HB1.out.size)
  obtain ⟨A, hA⟩ : ∃ A, A = rb + 1 := ⟨_, rfl⟩
  have HR2 : Hid (RegAt w2 A A rb (.slice none 0 0) []) := by rw [hA, hrb]; exact HR2
  have HLA := Lib.hid (show rb < A by omega)
  rw [← hrb]
  clear hrb hA HB1 HNW HAW
  go_loopw [6] (fun i wr => ∃ (k N : Nat) (u : Value) (zs : List Nm), k ≤ l.length ∧ i = .int .i64 k ∧ Hid (RegAt wr A N rb u zs) ∧ Hid (ysOf zs = setAll (l.take k)) ∧ Hid (∀ e ∈ l.take k, e.n.length ≤ 100 ∧ lightB e.x = true) ∧ Hid (Below w.heap.size w wr)) (fun i _ => l.length - (intOf i).toNat)
  case atStart => exact ⟨0, A, _, [], by omega, rfl, HR2, Lib.hid rfl, Lib.hid (by simp), HB2⟩
  case round =>
    obtain ⟨k, N, u, zs, hk, rfl, HR, HY, HLT, HB⟩ := hrel
    clear HR2 HB2
    by_cases hlt : k < l.length
    · obtain ⟨b, off, rfl, hb, hc⟩ := HA.out (by omega)
      obtain ⟨x, hxm⟩ := get_some hlt
      have HC : Hid (∀ W, Below w.heap.size w W → (W.cell? ⟨b, off + k * 7, none⟩ = some (.string (B x.n)) ∧ W.cell? ⟨b, off + k * 7 + 1, none⟩ = some x.va ∧ W.cell? ⟨b, off + k * 7 + 2, none⟩ = some x.vw ∧ W.cell? ⟨b, off + k * 7 + 3, none⟩ = some (.string (B x.x.g)) ∧ W.cell? ⟨b, off + k * 7 + 4, none⟩ = some (.string (B x.x.x)) ∧ W.cell? ⟨b, off + k * 7 + 5, none⟩ = some (.string (B x.x.p)) ∧ W.cell? ⟨b, off + k * 7 + 6, none⟩ = some (.string (B x.x.s))) ∧ b < W.heap.size) := fun W hW => by
        have hG : ∀ j u, (namC x)[j]? = some u → W.cell? ⟨b, off + k * 7 + j, none⟩ = some u := fun j u hj => (hW.cell (p := ⟨b, off + k * 7 + j, none⟩) hb).trans (hc k _ hxm j _ hj)
        exact ⟨⟨by simpa using hG 0 _ rfl, hG 1 _ rfl, hG 2 _ rfl, hG 3 _ rfl, hG 4 _ rfl, hG 5 _ rfl, hG 6 _ rfl⟩, Nat.lt_of_lt_of_le hb hW.size⟩
      obtain ⟨⟨e0, e1, e2, e3, e4, e5, e6⟩, e7⟩ := HC.out _ HB.out
      haveI : Old wr b := ⟨e7⟩
      have k0 : (0 : Int) ≤ (k : Int) := by omega
      have k1 : (k : Int) < (l.length : Int) := by omega
      obtain ⟨ha, hw, la, lw⟩ := HOK.out x (List.mem_of_getElem? hxm)
      have HS := Lib.hid (setAll_snoc l k x hxm)
      have HTK := Lib.hid (show l.take (k + 1) = l.take k ++ [x] by rw [List.take_add_one, hxm]; rfl)
      have hzl : zs.length < 10000 := by
        have h1 := setAll_len (l.take k)
        rw [← HY.out, ys_len, List.length_take] at h1
        omega
      have HST := Lib.hid fun W (hW : Below wr.heap.size wr W) (ln : x.n.length ≤ 100) (ll : lightB x.x = true) => set20_any W A N rb u zs x.n x.va x.vw x.x (HR.out.below hW) hzl (by omega) (ha.below (below_then HB.out hW)) (hw.below (below_then HB.out hW)) (by have := (light_len ll).1; omega) (by have := (light_len ll).2; omega)
      have HLI := Lib.hid fun W (hb : Below w.heap.size w W) => light_any x.va x.vw x.x W (ha.below hb) (hw.below hb) la lw
      unfold SetP at HST
      obtain ⟨Aa, ca, hva, _⟩ := ha
      obtain ⟨Aw, cw, hvw, _⟩ := hw
      obtain ⟨xn, xa, xw, xx⟩ := x
      dsimp only at *
      subst hva hvw
      clear hc hxm
      by_cases g1 : 100 < xn.length
      · have m1 : (100 : Int) < (xn.length : Int) := by omega
        clear g1
        go_wp2
        go_ret
        exact ⟨rfl, HB.out⟩
      have m1 : ¬ (100 : Int) < (xn.length : Int) := by omega
      cases hl : lightB xx with
      | false =>
        rw [hl] at HLI
        go_wp2_with (go_at_call 11; refine (HLI.out _ HB.out).mono ?_; rintro e w3 ⟨rfl, hb⟩; have HB3 := Lib.hid (below_then HB.out hb); clear hb)
        go_ret
        exact ⟨rfl, HB3.out⟩
      | true =>
        rw [hl] at HLI
        go_wp2_with (go_at_call 11; refine (HLI.out _ HB.out).mono ?_; rintro e w3 ⟨rfl, hb⟩; have HB3 := Lib.hid hb; have HBW := Lib.hid (below_then HB.out hb); clear hb e0 e1 e2 e3 e4 e5 e6 e7)
        obtain ⟨⟨e0, e1, e2, e3, e4, e5, e6⟩, e7⟩ := HC.out _ HBW.out
        haveI : Old w3 b := ⟨e7⟩
        (refine wp_region_grow_mid 11 (by kernel_rfl) (by kernel_rfl) rfl ?_; simp only [List.take_succ_cons, List.take_zero, List.drop_succ_cons, List.drop_zero]; (repeat (go_big_quiet_step (fail))); refine wpQuiet_nil ?_; intro _ hw'; obtain ⟨gq, hw''⟩ := hw'; subst hw''; intro K hK; go_simp; ((go_at_call 15; refine (HST.out _ (below_then HB3.out (grow_below _ _)) (by omega) hl).mono ?_; rintro e5 w5 ⟨rfl, v5, N5, z5, hr5, hn5, hy5, hk5, hat5⟩; have HR5 := Lib.hid hr5; have HY5 := Lib.hid (hy5.trans (show _ = setC (setAll (l.take k)) xn xx by rw [← HY.out]; rfl)); have HB5 := Lib.hid (below_keeps (below_then HBW.out (grow_below _ _)) hk5 (fun j q => by have := HLA.out; have := HZ.out; rcases q with q | ⟨_, q⟩ <;> omega)); clear hr5 hy5 hk5 hat5)); refine hK.out _ _ ?_; clear hK K; (repeat (go_big_quiet_step (fail))); refine wpQuiet_nil ?_; intro _ hw'; obtain ⟨gq2, hw''⟩ := hw'; subst hw'')
        go_wp2_with fail
        go_roundw
        case rel => exact ⟨k + 1, N5, v5, z5, by omega, by go_num, Lib.hid (HR5.out.below (grow_below _ _)), Lib.hid (by show _ = _; rw [HS.out]; exact HY5.out), Lib.hid (fun e he => by
          rw [HTK.out] at he
          rcases List.mem_append.1 he with he | he
          · exact HLT.out e he
          · rw [List.mem_singleton] at he
            subst he
            exact ⟨Nat.le_of_not_lt g1, hl⟩), Lib.hid (below_then HB5.out (grow_below _ _))⟩
        case measure => simp [intOf]; omega
    · have hk2 : k = l.length := by omega
      have hy := HY.out
      have ht := HLT.out
      rw [hk2, List.take_length] at hy ht
      have HY2 := Lib.hid hy
      have d0 : ¬ (k : Int) < (l.length : Int) := by omega
      obtain ⟨hrs, hal⟩ := all_of l (fun y => y.2.a.length ≤ 20 ∧ y.2.w.length ≤ 20) (fun e he => light_len (ht e he).2)
      have HRS := Lib.hid hrs
      have HAL := Lib.hid hal
      have hsl := setAll_len l
      have HOF := Lib.hid fun W (hb : Below w.heap.size w W) => of20_any l (.slice A0 l.length c0) W (HV.out.below hb) (by omega) (fun e he => by
        obtain ⟨q1, q2, -, -⟩ := HOK.out e he
        have q3 := light_len (ht e he).2
        exact ⟨q1.below hb, q2.below hb, by omega, by omega, by have := (ht e he).1; omega⟩)
      clear hk2 hlt hy ht HOK HA HV HY HLT hrs hal
      generalize setAll l = ys at *
      have hzl : zs.length ≤ 12 := by have := ys_len zs; rw [HY2.out] at this; omega
      have hnm : ∀ z : List Nm, ysOf z = ys → z.map Nm.n = ys.map (·.1) := fun z h => by rw [← h]; unfold ysOf; rw [List.map_map]; rfl
      have HNX := Lib.hid fun (W : World) (rb A N : Nat) (u : Value) (z : List Nm) (hr : RegAt W A N rb u z) (hz : ysOf z = ys) => (hnm z hz) ▸ names20_any W A N rb u z hr (by have := ys_len z; rw [hz] at this; omega)
      have HGX := Lib.hid fun (s : List UInt8) (W : World) (rb A N : Nat) (u : Value) (z : List Nm) (hr : RegAt W A N rb u z) (hz : ysOf z = ys) => (got_all hz hr.r) ▸ get_any W A N rb u z s hr (by have := ys_len z; rw [hz] at this; omega) (ys_lens hz HAL.out)
      have HFX := Lib.hid fun (W : World) (rb A N : Nat) (u : Value) (z : List Nm) (hr : RegAt W A N rb u z) (hz : ysOf z = ys) => (got_all hz hr.r) ▸ for_any W A N rb u z cm hr (by have := ys_len z; rw [hz] at this; omega) (ys_lens hz HAL.out) (by omega)
      have HLK := Lib.hid fun k n (h : (ys.map (·.1))[k]? = some n) => look_in HRS.out h
      have HYL := Lib.hid fun (s : List UInt8) => (show (lookQ ys s).1.a.length ≤ 20 ∧ (lookQ ys s).1.w.length ≤ 20 by
        unfold lookQ
        cases hq : lookY ys s with
        | none => simp [sp0]
        | some y => exact HAL.out _ ((look_mem (rises_ne HRS.out) s y).1 hq))
      have HFL := Lib.hid (show (forQ (lookQ ys) cm).1.a.length ≤ 20 ∧ (forQ (lookQ ys) cm).1.w.length ≤ 20 by
        unfold forQ
        repeat' split
        all_goals exact HYL.out _)
      unfold NamesP at HNX
      unfold GetP at HGX HFX
      unfold OfP at HOF
      clear hnm
      go_upto_region 17 with (go_at_call 17; refine (HOF.out _ HB.out).mono ?_; rintro e6 w6 ⟨rb2, A2, N2, v2, z2, rfl, hr2, hy2, hz2, hb2⟩; have HR6 := Lib.hid hr2; have HY6 := Lib.hid hy2; have HRA6 := Lib.hid (HR.out.below hb2); have HB6 := Lib.hid (below_then HB.out hb2); clear hr2 hy2 hz2 hb2)
      have HNA := Lib.hid fun W (hb : Below w6.heap.size w6 W) => HNX.out W rb A N u zs (HRA6.out.below hb) HY2.out
      have HNB := Lib.hid fun W (hb : Below w6.heap.size w6 W) => HNX.out W rb2 A2 N2 v2 z2 (HR6.out.below hb) HY6.out
      have HGA := Lib.hid fun s W (hb : Below w6.heap.size w6 W) => HGX.out s W rb A N u zs (HRA6.out.below hb) HY2.out
      have HGB := Lib.hid fun s W (hb : Below w6.heap.size w6 W) => HGX.out s W rb2 A2 N2 v2 z2 (HR6.out.below hb) HY6.out
      have HFA := Lib.hid fun W (hb : Below w6.heap.size w6 W) => HFX.out W rb A N u zs (HRA6.out.below hb) HY2.out
      have HFB := Lib.hid fun W (hb : Below w6.heap.size w6 W) => HFX.out W rb2 A2 N2 v2 z2 (HR6.out.below hb) HY6.out
      clear HNX HGX HFX HR6 HY6 HRA6 HY2 HR HB HOF
      have hns : (ys.map (·.1)).length ≤ 12 := by rw [List.length_map]; omega
      generalize ys.map (·.1) = ns at *
      have nn : ((ns.length : Int) != (ns.length : Int)) = false := by simp
      go_wp2_with (first
        | (go_at_call 18; (with_reducible refine (HNA.out _ (Below.refl _ _)).mono ?_); rintro e7 w7 ⟨v7, rfl, ho7, hb7⟩; obtain ⟨A7, c7, rfl, -⟩ := ho7.form0; have HO7 := Lib.hid ho7; have HB7 := Lib.hid hb7; clear ho7 hb7)
        | (go_at_call 18; (with_reducible refine (HNB.out _ HB7.out).mono ?_); rintro e8 w8 ⟨v8, rfl, ho8, hb8⟩; obtain ⟨A8, c8, rfl, -⟩ := ho8.form0; have HO8 := Lib.hid ho8; have HO7 := Lib.hid (HO7.out.below hb8); have HB8 := Lib.hid (below_then HB7.out hb8); clear ho8 hb8 HB7))
      clear HNA HNB
      go_loopw [10] (fun i w' => ∃ j : Nat, j ≤ ns.length ∧ i = .int .i64 j ∧ Hid (Below w8.heap.size w8 w')) (fun i _ => ns.length - (intOf i).toNat)
      case atStart => exact ⟨0, by omega, rfl, Lib.hid (Below.refl _ _)⟩
      case round =>
        obtain ⟨j, hj, rfl, HBJ⟩ := hrel
        have HBX := Lib.hid (below_then HB8.out HBJ.out)
        by_cases hjl : j < ns.length
        · have j0 : (0 : Int) ≤ (j : Int) := by omega
          have j1 : (j : Int) < (ns.length : Int) := by omega
          obtain ⟨t, ht⟩ := get_some hjl
          obtain ⟨g, off2, c9, hv9, -, -, -, hcs⟩ := own_at HO7.out (by omega)
          injection hv9 with e1 e2 e3
          subst e1 e3
          obtain ⟨g', off3, c9', hv9', -, -, -, hcs'⟩ := own_at HO8.out (by omega)
          injection hv9' with e1' e2' e3'
          subst e1' e3'
          have hg : g < w8.heap.size := HO7.out.lt g rfl
          have hg' : g' < w8.heap.size := HO8.out.lt g' rfl
          have HCS := Lib.hid fun W (hW : Below w8.heap.size w8 W) => (show (W.cell? ⟨g, off2 + j, none⟩ = some (.string (B t)) ∧ g < W.heap.size) ∧ W.cell? ⟨g', off3 + j, none⟩ = some (.string (B t)) ∧ g' < W.heap.size from ⟨⟨(hW.cell (p := ⟨g, off2 + j, none⟩) hg).trans (hcs j t ht), Nat.lt_of_lt_of_le hg hW.size⟩, (hW.cell (p := ⟨g', off3 + j, none⟩) hg').trans (hcs' j t ht), Nat.lt_of_lt_of_le hg' hW.size⟩)
          obtain ⟨y, hlk⟩ := HLK.out j t ht
          have hyl := HYL.out t
          have HA1 := Lib.hid fun W hb => HGA.out t W hb
          have HB1 := Lib.hid fun W hb => HGB.out t W hb
          rw [hlk] at HA1 HB1 hyl
          dsimp only at HA1 HB1 hyl
          have HSM := Lib.hid fun (t1 t2 t3 t4 : Value) W (h1 : Sl W numC 1 t1 y.a) (h2 : Sl W strC 1 t2 y.w) (h3 : Sl W numC 1 t3 y.a) (h4 : Sl W strC 1 t4 y.w) => same20_any t1 t2 t3 t4 y y W h1 h2 h3 h4 (by omega) (by omega)
          rw [sameB_self] at HSM
          clear hcs hcs' hlk ht hyl
          obtain ⟨⟨s0, s1⟩, s2, s3⟩ := HCS.out _ HBJ.out
          haveI : Old wr g := ⟨s1⟩
          haveI : Old wr g' := ⟨s3⟩
          have t0 : (t != t) = false := by simp
          go_wp2_with (first
            | (go_at_call 16; (with_reducible refine (HA1.out _ HBX.out).mono ?_); rintro e9 w9 ⟨va9, vw9, rfl, ha9, hw9, hb9⟩; obtain ⟨C9, k9, rfl, -⟩ := ha9.form0; obtain ⟨D9, j9, rfl, -⟩ := hw9.form0; have HA9 := Lib.hid ha9; have HW9 := Lib.hid hw9; have HB9 := Lib.hid hb9; clear s0 s1 s2 s3; obtain ⟨⟨s0, s1⟩, s2, s3⟩ := HCS.out _ (below_then HBJ.out hb9); haveI : Old w9 g := ⟨s1⟩; haveI : Old w9 g' := ⟨s3⟩; clear ha9 hw9 hb9)
            | (go_at_call 16; (with_reducible refine (HB1.out _ (below_then HBX.out (below_alloc HB9.out _))).mono ?_); rintro e10 w10 ⟨va10, vw10, rfl, ha10, hw10, hb10⟩; obtain ⟨C10, k10, rfl, -⟩ := ha10.form0; obtain ⟨D10, j10, rfl, -⟩ := hw10.form0; have HA10 := Lib.hid ha10; have HW10 := Lib.hid hw10; have HB10 := Lib.hid hb10; have hx10 := (BoxN.new w9 [.slice C9 y.a.length k9, .slice D9 y.w.length j9, .string (B y.g), .string (B y.x), .string (B y.p), .string (B y.s)] 26).below hb10; obtain ⟨⟨r0, r1, r2, r3, r4, r5⟩, -⟩ := box6 hx10; haveI : Old w10 w9.heap.size := ⟨hx10.lt⟩; clear s0 s1 s2 s3; obtain ⟨⟨s0, s1⟩, s2, s3⟩ := HCS.out _ (below_then HBJ.out (below_then (below_alloc HB9.out _) hb10)); haveI : Old w10 g := ⟨s1⟩; haveI : Old w10 g' := ⟨s3⟩; clear ha10 hw10 hb10 hx10))
          (refine wp_region_grow (by kernel_rfl) (by kernel_rfl) ?_; (repeat (go_big_quiet_step ((go_at_call 10; exact grow_of (HSM.out (.slice C9 y.a.length k9) (.slice D9 y.w.length j9) (.slice C10 y.a.length k10) (.slice D10 y.w.length j10) _ ((HA9.out.below (below_then (below_alloc (Below.refl _ _) _) (below_then HB10.out (below_then (below_alloc (Below.refl _ _) _) (grow_below _ _))))).sl (fun _ _ => rfl) rfl) ((HW9.out.below (below_then (below_alloc (Below.refl _ _) _) (below_then HB10.out (below_then (below_alloc (Below.refl _ _) _) (grow_below _ _))))).sl (fun _ _ => rfl) rfl) ((HA10.out.below (below_then (below_alloc (Below.refl _ _) _) (grow_below _ _))).sl (fun _ _ => rfl) rfl) ((HW10.out.below (below_then (below_alloc (Below.refl _ _) _) (grow_below _ _))).sl (fun _ _ => rfl) rfl)))))); refine wpQuiet_nil ?_; intro _ hw'; obtain ⟨gq, hw''⟩ := hw'; subst hw'')
          go_wp2_with fail
          go_roundw
          case rel =>
            exact ⟨j + 1, by omega, by go_num, Lib.hid (below_then HBJ.out (below_then HB9.out (below_then (below_alloc (Below.refl _ _) _) (below_then HB10.out (below_then (below_alloc (Below.refl _ _) _) (grow_below _ _))))))⟩
          case measure => simp [intOf]; omega
        · have j1 : ¬ (j : Int) < (ns.length : Int) := by omega
          clear HGA HGB HO7 HO8
          have hfl := HFL.out
          generalize forQ (lookQ ys) cm = q at *
          obtain ⟨y, qb⟩ := q
          dsimp only at HFA HFB hfl
          have HSM := Lib.hid fun (t1 t2 t3 t4 : Value) W (h1 : Sl W numC 1 t1 y.a) (h2 : Sl W strC 1 t2 y.w) (h3 : Sl W numC 1 t3 y.a) (h4 : Sl W strC 1 t4 y.w) => same20_any t1 t2 t3 t4 y y W h1 h2 h3 h4 (by omega) (by omega)
          rw [sameB_self] at HSM
          have qq : (qb == qb) = true := by simp
          go_wp2_with (first
            | (go_at_call 19; (with_reducible refine (HFA.out _ HBX.out).mono ?_); rintro e9 w9 ⟨va9, vw9, rfl, ha9, hw9, hb9⟩; obtain ⟨C9, k9, rfl, -⟩ := ha9.form0; obtain ⟨D9, j9, rfl, -⟩ := hw9.form0; have HA9 := Lib.hid ha9; have HW9 := Lib.hid hw9; have HB9 := Lib.hid hb9; clear ha9 hw9 hb9)
            | (go_at_call 19; (with_reducible refine (HFB.out _ (below_then HBX.out (below_alloc HB9.out _))).mono ?_); rintro e10 w10 ⟨va10, vw10, rfl, ha10, hw10, hb10⟩; obtain ⟨C10, k10, rfl, -⟩ := ha10.form0; obtain ⟨D10, j10, rfl, -⟩ := hw10.form0; have HA10 := Lib.hid ha10; have HW10 := Lib.hid hw10; have HB10 := Lib.hid hb10; have hx10 := (BoxN.new w9 [.slice C9 y.a.length k9, .slice D9 y.w.length j9, .string (B y.g), .string (B y.x), .string (B y.p), .string (B y.s)] 26).below hb10; obtain ⟨⟨r0, r1, r2, r3, r4, r5⟩, -⟩ := box6 hx10; haveI : Old w10 w9.heap.size := ⟨hx10.lt⟩; clear ha10 hw10 hb10 hx10)
            | (go_at_call 10; refine (HSM.out (.slice C9 y.a.length k9) (.slice D9 y.w.length j9) (.slice C10 y.a.length k10) (.slice D10 y.w.length j10) _ ((HA9.out.below (below_then (below_alloc (Below.refl _ _) _) (below_then HB10.out (below_alloc (Below.refl _ _) _)))).sl (fun _ _ => rfl) rfl) ((HW9.out.below (below_then (below_alloc (Below.refl _ _) _) (below_then HB10.out (below_alloc (Below.refl _ _) _)))).sl (fun _ _ => rfl) rfl) ((HA10.out.below (below_alloc (Below.refl _ _) _)).sl (fun _ _ => rfl) rfl) ((HW10.out.below (below_alloc (Below.refl _ _) _)).sl (fun _ _ => rfl) rfl)).mono ?_; rintro e11 w11 ⟨rfl, hb11⟩; have HB11 := Lib.hid hb11; clear hb11))
          go_ret
          exact ⟨rfl, below_then HB6.out (below_then HBX.out (below_then HB9.out (below_then (below_alloc (Below.refl _ _) _) (below_then HB10.out (below_then (below_alloc (Below.refl _ _) _) HB11.out)))))⟩
end Go.Proofs.YtljinmfkogmmlaaGreat.specOf
