/-
  The walk of the law UndoPlays: it returns true, whatever its arguments. Conditions: none (arguments as the row reads them). Printed by gen_plays.py.
-/
import Derived.Test.YtkinjjgaecbogaaUndo13
namespace Go.Proofs.Ytkinjjgaecbogaa.undoPlays
open Go.ChangeShapes Go.WideShapes Go.Deep Go.ChangeAt Go.RowKit
set_option maxRecDepth 100000
set_option linter.unusedSimpArgs false
set_option maxHeartbeats 32000000 in
theorem walk {H : Type} (enc : TypeId × Value → H) (w : World) (base : Nat) {v0 v1 : Value} {d0 d1 : DataW H} {p0 p1 : List MemPlace}
    (h0 : DataW.Trod enc Try.prog w 0 (fun _ => true) true 3 v0 d0 p0) (k0 : Value.okWide Try.prog w .any base 3 v0)
    (h1 : DataW.Trod enc Try.prog w 0 (fun _ => true) true 83 v1 d1 p1) (k1 : Value.okWide Try.prog w .any base 83 v1) :
    Calls Try.prog 13 #[v0, v1] w fun e w' => e = .returned (.bool true) ∧ Below w.heap.size w w' := by
  obtain ⟨most, rfl, hmo1, hmo2⟩ := open_num h0 k0
  obtain ⟨l, hv, hok, hl⟩ := open_sl ActU.cells ActU.Ok Try.underlying83 actU_cells (by omega) actU_dec h1 k1
  clear h0 k0 h1 k1 hok
  obtain ⟨i5, hi5, hz50, hz51, hz52⟩ := info_parts info_stp
  have HV := Lib.hid hv
  obtain ⟨A, c, rfl, hc1, hc2, hn, hA⟩ := hv
  have HA := Lib.hid hA
  clear hA hn
  have HAW := Lib.hid fun w => awake02_any w
  have HFEW := Lib.hid fun w' (hb : Below w.heap.size w w') => few_any l _ w' (HV.out.below hb)
  cases hfb : fewB l with
  | false => as_aux_lemma =>
      rw [hfb] at HFEW
      clear hfb
      go_enter Try.func13, Try.ntmps13
      go_wp2_with (first | (go_at_call 49; refine (HAW.out _).mono ?_; rintro e w' ⟨rfl, hb⟩; obtain ⟨g, rfl⟩ := to_grow hb; clear hb) | (go_at_call 50; refine (HFEW.out _ (by (repeat (first | with_reducible exact Below.refl _ _ | with_reducible assumption | with_reducible refine below_alloc ?_ _ | with_reducible refine below_grow ?_ _ | with_reducible refine below_drewN ?_ _ | with_reducible refine below_drew ?_ | with_reducible refine below_setCell ?_ (by first | (dsimp only; omega) | (simp; done) | (simp; omega)) _)))).mono ?_; rintro e w' ⟨rfl, hb⟩; obtain ⟨g, rfl⟩ := to_grow hb; clear hb))
      go_ret
      exact ⟨rfl, by (repeat (first | with_reducible exact Below.refl _ _ | with_reducible assumption | with_reducible refine below_alloc ?_ _ | with_reducible refine below_grow ?_ _ | with_reducible refine below_drewN ?_ _ | with_reducible refine below_drew ?_ | with_reducible refine below_setCell ?_ (by first | (dsimp only; omega) | (simp; done) | (simp; omega)) _))⟩
  | true =>
  obtain ⟨hl40, hsm⟩ := fewB_spec hfb
  have HSM := Lib.hid hsm
  rw [hfb] at HFEW
  clear hfb hsm
  by_cases hm60 : 60 < most ∧ most ≤ 100000
  · as_aux_lemma =>
      obtain ⟨hm1, hm2⟩ := hm60
      go_enter Try.func13, Try.ntmps13
      go_wp2_with (first | (go_at_call 49; refine (HAW.out _).mono ?_; rintro e w' ⟨rfl, hb⟩; obtain ⟨g, rfl⟩ := to_grow hb; clear hb) | (go_at_call 50; refine (HFEW.out _ (by (repeat (first | with_reducible exact Below.refl _ _ | with_reducible assumption | with_reducible refine below_alloc ?_ _ | with_reducible refine below_grow ?_ _ | with_reducible refine below_drewN ?_ _ | with_reducible refine below_drew ?_ | with_reducible refine below_setCell ?_ (by first | (dsimp only; omega) | (simp; done) | (simp; omega)) _)))).mono ?_; rintro e w' ⟨rfl, hb⟩; obtain ⟨g, rfl⟩ := to_grow hb; clear hb))
      go_ret
      exact ⟨rfl, by (repeat (first | with_reducible exact Below.refl _ _ | with_reducible assumption | with_reducible refine below_alloc ?_ _ | with_reducible refine below_grow ?_ _ | with_reducible refine below_drewN ?_ _ | with_reducible refine below_drew ?_ | with_reducible refine below_setCell ?_ (by first | (dsimp only; omega) | (simp; done) | (simp; omega)) _))⟩
  by_cases hbad : most < 1 ∨ 100000 < most
  · as_aux_lemma =>
      have HNB := Lib.hid fun w => newJ_bad most w hbad
      rcases hbad with hb1 | hb1
      · have d1 := no (show ¬ (60 : Int) < most by omega)
        clear hm60
        go_enter Try.func13, Try.ntmps13
        go_wp2_with (first | (go_at_call 49; refine (HAW.out _).mono ?_; rintro e w' ⟨rfl, hb⟩; obtain ⟨g, rfl⟩ := to_grow hb; clear hb) | (go_at_call 50; refine (HFEW.out _ (by (repeat (first | with_reducible exact Below.refl _ _ | with_reducible assumption | with_reducible refine below_alloc ?_ _ | with_reducible refine below_grow ?_ _ | with_reducible refine below_drewN ?_ _ | with_reducible refine below_drew ?_ | with_reducible refine below_setCell ?_ (by first | (dsimp only; omega) | (simp; done) | (simp; omega)) _)))).mono ?_; rintro e w' ⟨rfl, hb⟩; obtain ⟨g, rfl⟩ := to_grow hb; clear hb) | (go_at_call 51; refine (HNB.out _).mono ?_; rintro e w' ⟨rfl, rfl⟩))
        go_ret
        exact ⟨rfl, by (repeat (first | with_reducible exact Below.refl _ _ | with_reducible assumption | with_reducible refine below_alloc ?_ _ | with_reducible refine below_grow ?_ _ | with_reducible refine below_drewN ?_ _ | with_reducible refine below_drew ?_ | with_reducible refine below_setCell ?_ (by first | (dsimp only; omega) | (simp; done) | (simp; omega)) _))⟩
      · have d1 : (60 : Int) < most := by omega
        have d2 := no (show ¬ most ≤ 100000 by omega)
        have d3 := no (show ¬ most < 1 by omega)
        clear hm60
        go_enter Try.func13, Try.ntmps13
        go_wp2_with (first | (go_at_call 49; refine (HAW.out _).mono ?_; rintro e w' ⟨rfl, hb⟩; obtain ⟨g, rfl⟩ := to_grow hb; clear hb) | (go_at_call 50; refine (HFEW.out _ (by (repeat (first | with_reducible exact Below.refl _ _ | with_reducible assumption | with_reducible refine below_alloc ?_ _ | with_reducible refine below_grow ?_ _ | with_reducible refine below_drewN ?_ _ | with_reducible refine below_drew ?_ | with_reducible refine below_setCell ?_ (by first | (dsimp only; omega) | (simp; done) | (simp; omega)) _)))).mono ?_; rintro e w' ⟨rfl, hb⟩; obtain ⟨g, rfl⟩ := to_grow hb; clear hb) | (go_at_call 51; refine (HNB.out _).mono ?_; rintro e w' ⟨rfl, rfl⟩))
        go_ret
        exact ⟨rfl, by (repeat (first | with_reducible exact Below.refl _ _ | with_reducible assumption | with_reducible refine below_alloc ?_ _ | with_reducible refine below_grow ?_ _ | with_reducible refine below_drewN ?_ _ | with_reducible refine below_drew ?_ | with_reducible refine below_setCell ?_ (by first | (dsimp only; omega) | (simp; done) | (simp; omega)) _))⟩
  obtain ⟨mo, rfl⟩ : ∃ m : Nat, most = m := ⟨most.toNat, by omega⟩
  have hm1 : 1 ≤ mo := by omega
  have hm2 : mo ≤ 60 := by omega
  have d1 := no (show ¬ (60 : Int) < (mo : Int) by omega)
  have d2 := no (show ¬ (mo : Int) < 1 by omega)
  have d3 := no (show ¬ (100000 : Int) < (mo : Int) by omega)
  clear hm60 hbad
  go_enter Try.func13, Try.ntmps13
  go_wp2_with (first | (go_at_call 49; refine (HAW.out _).mono ?_; rintro e w' ⟨rfl, hb⟩; obtain ⟨g, rfl⟩ := to_grow hb; clear hb) | (go_at_call 50; refine (HFEW.out _ (by (repeat (first | with_reducible exact Below.refl _ _ | with_reducible assumption | with_reducible refine below_alloc ?_ _ | with_reducible refine below_grow ?_ _ | with_reducible refine below_drewN ?_ _ | with_reducible refine below_drew ?_ | with_reducible refine below_setCell ?_ (by first | (dsimp only; omega) | (simp; done) | (simp; omega)) _)))).mono ?_; rintro e w' ⟨rfl, hb⟩; obtain ⟨g, rfl⟩ := to_grow hb; clear hb) | (go_at_call 51; refine (newJ_ok mo _ hm1 (by omega)).mono ?_; rintro e w1 ⟨rfl, hj, hb⟩; obtain ⟨jb, hjb, hp⟩ := PlI.start (w := w) (by (repeat (first | with_reducible exact Below.refl _ _ | with_reducible assumption | with_reducible refine below_alloc ?_ _ | with_reducible refine below_grow ?_ _ | with_reducible refine below_drewN ?_ _ | with_reducible refine below_drew ?_ | with_reducible refine below_setCell ?_ (by first | (dsimp only; omega) | (simp; done) | (simp; omega)) _))) hj hb; rw [hjb]; have HPI := Lib.hid hp; clear hj hb hp hjb))
  clear d1 d2 d3
  go_loopw [6, 7, 8] (fun s6 s7 i wr => ∃ (k : Nat) (lv : Value) (dl ul : List Stp) (dv uv : Value), k ≤ l.length ∧ dv = s6 ∧ uv = s7 ∧ i = .int .i64 k ∧ Hid (PlI w wr jb lv dv uv mo dl ul k)) (fun _ _ i _ => l.length - (intOf i).toNat)
  case atStart => exact ⟨0, _, [], [], _, _, by omega, rfl, rfl, rfl, HPI.out⟩
  case round =>
    clear HPI
    obtain ⟨k, lv, dl, ul, dv, uv, hk, rfl, rfl, rfl, HI⟩ := hrel
    by_cases hlt : k < l.length
    rotate_left
    · have HB := HI.out.bl
      go_wp2
      go_ret
      exact ⟨rfl, HB⟩
    obtain ⟨b, off, rfl, hb, hc⟩ := HA.out (by omega)
    have e0 := fun j u hu => (HI.out.bl.cell (p := ⟨b, off + k * 6 + j, none⟩) hb).trans (hc k _ (List.getElem?_eq_getElem hlt) j u hu)
    have f0 := e0 0 _ rfl
    have f1 := e0 1 _ rfl
    have f2 := e0 2 _ rfl
    have f3 := e0 3 _ rfl
    have f4 := e0 4 _ rfl
    have f5 := e0 5 _ rfl
    simp only [Nat.add_zero] at f0
    have HC : Hid (∀ W, Below w.heap.size w W → W.cell? ⟨b, off + k * 6, none⟩ = some (.int .i64 l[k].kind)) := fun W hW => by have := (hW.cell (p := ⟨b, off + k * 6 + 0, none⟩) hb).trans (hc k _ (List.getElem?_eq_getElem hlt) 0 _ rfl); simpa using this
    have hsz := HSM.out l[k] (List.getElem_mem hlt)
    clear e0 hc
    have hwz := HI.out.bl.size
    haveI : Old wr b := ⟨Nat.lt_of_lt_of_le hb hwz⟩
    have hi0' : (0 : Int) ≤ (k : Int) := by omega
    have hi1' : (k : Int) < (l.length : Int) := by omega
    generalize l[k] = a at *
    obtain ⟨kind, s⟩ := a
    dsimp only at f0 f1 f2 f3 f4 f5 hsz HC
    obtain ⟨hs1, hs2⟩ := hsz
    obtain ⟨Ad, cd, rfl, hd1, hd2, -, -⟩ := HI.out.d
    obtain ⟨Au, cu, rfl, hu1, hu2, -, -⟩ := HI.out.u
    have hlen := HI.out.len
    have hdm := HI.out.dm
    go_upto_block 2 with fail
    go_cut [6, 7] (fun s6 s7 wx => ∃ (lv' : Value) (dl' ul' : List Stp), Hid (PlI w wx jb lv' s6 s7 mo dl' ul' (k + 1)))
    case first =>
      have hjlt := HI.out.j.lt
      have hlvlt := HI.out.j.own.lt
      have HDX := Lib.hid (fun i (e : (Value.slice Ad dl.length cd).ownBlock = some i) => (HI.out.dx i e).1)
      have HI0 := Lib.hid (HI.out.below (below_alloc (Below.refl _ _) (.cells #[.int .i64 s.ed.pos, .string (B s.ed.del), .string (B s.ed.ins), .int .i64 s.ahead, .int .i64 s.behind] 89)))
      have HY0 := Lib.hid (StpBox.new wr s 89)
      generalize hsbe : wr.heap.size = sb at *
      generalize wr.alloc (.cells #[.int .i64 s.ed.pos, .string (B s.ed.del), .string (B s.ed.ins), .int .i64 s.ahead, .int .i64 s.behind] 89) = W0 at *
      clear HI f0 f1 f2 f3 f4 f5
      have hsb1 : sb ≠ jb := by omega
      have HSB2 : Hid (lv.ownBlock ≠ some sb) := fun e => by have := hlvlt sb e; omega
      have hsge : w.heap.size ≤ sb := by omega
      have HSD : Hid ((Value.slice Ad dl.length cd).ownBlock ≠ some sb) := fun e => by have := HDX.out sb e; omega
      clear hsbe hjlt hlvlt HDX hwz
      have f0 := HC.out W0 HI0.out.bl
      obtain ⟨y0, y1, y2, y3, y4⟩ := HY0.out.loads
      haveI : Old W0 b := ⟨Nat.lt_of_lt_of_le hb HI0.out.bl.size⟩
      haveI : Old W0 sb := ⟨HY0.out.lt⟩
      have hkind : kind = 0 ∨ kind = 1 ∨ kind = 2 ∨ kind = 3 ∨ kind = 4 ∨ (kind ≠ 0 ∧ kind ≠ 1 ∧ kind ≠ 2 ∧ kind ≠ 3 ∧ kind ≠ 4) := by omega
      rcases hkind with rfl | rfl | rfl | rfl | rfl | ⟨n0, n1, n2, n3, n4⟩
      · as_aux_lemma =>
          have HPU := Lib.hid fun W h => push_a W w.heap.size jb lv mo (dl ++ ul) dl.length s false h (.inl rfl) (by simp; omega) hm1 (by omega)
          unfold Stp.val at HPU
          go_wp2
          (refine wp_region_grow_tail 8 (by kernel_rfl) (by kernel_rfl) ?_; simp only [List.take_succ_cons, List.take_zero, List.drop_succ_cons, List.drop_zero]; (repeat (go_big_quiet_step (fail))); refine wpQuiet_nil ?_; intro _ hw'; obtain ⟨gq, hw''⟩ := hw'; subst hw'')
          go_wp2_with (go_at_call 52; refine (HPU.out _ (HI0.out.j.below (grow_below W0 gq))).mono ?_; rintro e w2 ⟨rfl, lv2, hj2, hk2⟩; have HM := Lib.hid ((HI0.out.below (grow_below W0 gq)).pushed (HY0.out.below (grow_below W0 gq)) hsb1 HSB2.out ⟨hs1, hs2⟩ hj2 hk2); have f0 := HC.out w2 HM.out.bl; haveI : Old w2 b := ⟨Nat.lt_of_lt_of_le hb HM.out.bl.size⟩; clear hj2 hk2)
          refine wp_region_keyed (fun W => W.cell? ⟨sb, 0, none⟩ = some (.int .i64 s.ed.pos) ∧ W.cell? ⟨sb, 1, none⟩ = some (.string (B s.ed.del)) ∧ W.cell? ⟨sb, 2, none⟩ = some (.string (B s.ed.ins)) ∧ W.cell? ⟨sb, 3, none⟩ = some (.int .i64 s.ahead) ∧ W.cell? ⟨sb, 4, none⟩ = some (.int .i64 s.behind)) [] (by kernel_rfl) ?_
          have HX := Lib.hid (HM.out.rs rfl)
          generalize w2.drew = Wc at *
          refine wpAnyK_take2 (i := 1) (some 111) (v := ?v1_1k0) rfl rfl (by kernel_rfl) (by kernel_rfl) (by kernel_rfl) (by kernel_rfl) (fun _ _ _ h => h) (Or.inl ⟨by rfl, ?y1_1k0⟩) (fun _ => HX.out.y.loads) ?r1_1k0
          case y1_1k0 =>
            intro w hSw
            go_simp
            try with_reducible rfl
          try simp only [Act.put, List.setIfInBounds_toArray, List.set_cons_zero, List.set_cons_succ]
          refine wpAnyK_load2 (i := 3) [4, 5, 6] (some 113) (v := ?v3_2k0) rfl rfl (by kernel_rfl) (by kernel_rfl) (by kernel_rfl) (by kernel_rfl) (by kernel_rfl) (fun _ _ _ h => h) (Or.inl ⟨by rfl, ?y3_2k0⟩) (fun _ => HX.out.y.loads) ?r3_2k0
          case y3_2k0 =>
            intro w hSw
            (try dsimp only at hSw)
            go_split_ands
            go_simp
            try with_reducible rfl
          try simp only [Act.put, List.setIfInBounds_toArray, List.set_cons_zero, List.set_cons_succ]
          refine wpAnyK_ready (rs := [0, 4]) (by kernel_rfl) (by simp) ?_
          refine AllReadyK.cons (i := 0) rfl (fun K hK => ?_) ?_
          · refine step_build0 _ rfl rfl (build_stp0 _) ?_
            have HX := Lib.hid (HX.out.below (below_alloc (Below.refl _ _) (.cells #[] 89)))
            have HO : Hid (Own (Wc.alloc (.cells #[] 89)) w2.heap.size 5 (.slice (some ⟨Wc.heap.size, 0, none⟩) 0 0) 0 []) := Own.none_ _ _ _ _ _ (by simp)
            try have hne : g7 ≠ Wc.heap.size := by have := H7.out.lt; omega
            try have H7 := Lib.hid (H7.out.below (below_alloc (Below.refl _ _) (.cells #[] 89)))
            generalize Wc.heap.size = g0 at *
            generalize Wc.alloc (.cells #[] 89) = Wc at *
            refine hK.out _ _ (fun _ => HX.out.y.loads) ?_
            clear hK K
            try simp only [Act.put, List.setIfInBounds_toArray, List.set_cons_zero, List.set_cons_succ]
            refine wpAnyK_ready (rs := [2, 4]) (by kernel_rfl) (by simp) ?_
            refine AllReadyK.cons (i := 2) rfl (fun K hK => ?_) ?_
            · have hbz := HX.out.b.size
              (refine step_append_src _ rfl (.tmp 110) (.tmp 111) _ rfl w2.heap.size 89 i5 _ 5 56 Try.underlying87 hi5 hz50 hz51 hz52 rfl (by decide) _ 0 [] rfl HO.out _ dl.length (dl.flatMap Stp.cells) rfl (by rw [stp_flat]) (HX.out.x.src stp_len) stp_one (by unfold maxLen; omega) (by omega) (by first | (simp; done) | omega | (simp; omega)) ?_; intro v3 w3 hown3 hg3 hat3 hty3; have HTY3 := Lib.hid hty3; clear hty3)
              have HX := Lib.hid (HX.out.app hg3)
              try have H7 := Lib.hid (H7.out.keeps hg3 (fun hf => hne (Option.some.inj hf.1).symm))
              have HO := Lib.hid hown3
              clear hown3 hg3 hat3 hbz
              obtain ⟨Wc, rfl⟩ : ∃ W, W = w3 := ⟨_, rfl⟩
              refine hK.out _ _ (fun _ => HX.out.y.loads) ?_
              clear hK K
              try simp only [Act.put, List.setIfInBounds_toArray, List.set_cons_zero, List.set_cons_succ]
              refine wpAnyK_ready (rs := [4]) (by kernel_rfl) (by simp) ?_
              refine AllReadyK.cons (i := 4) rfl (fun K hK => ?_) ?_
              · refine step_build1 (.tmp 113) _ _ rfl rfl rfl (build_stp _ s) ?_
                have HX := Lib.hid (HX.out.below (below_alloc (Below.refl _ _) (.cells #[.int .i64 s.ed.pos, .string (B s.ed.del), .string (B s.ed.ins), .int .i64 s.ahead, .int .i64 s.behind] 89)))
                have H7 := Lib.hid (StpBox.new Wc s 89)
                try have hne : Wc.heap.size ≠ g0 := by have := HO.out.lt g0 rfl; omega
                try have HO := Lib.hid (HO.out.below (below_alloc (Below.refl _ _) (.cells #[.int .i64 s.ed.pos, .string (B s.ed.del), .string (B s.ed.ins), .int .i64 s.ahead, .int .i64 s.behind] 89)))
                generalize Wc.heap.size = g7 at *
                generalize Wc.alloc (.cells #[.int .i64 s.ed.pos, .string (B s.ed.del), .string (B s.ed.ins), .int .i64 s.ahead, .int .i64 s.behind] 89) = Wc at *
                refine hK.out _ _ (fun _ => HX.out.y.loads) ?_
                clear hK K
                try simp only [Act.put, List.setIfInBounds_toArray, List.set_cons_zero, List.set_cons_succ]
                refine wpAnyK_ready (rs := [5]) (by kernel_rfl) (by simp) ?_
                refine AllReadyK.cons (i := 5) rfl (fun K hK => ?_) ?_
                · have hbz := HX.out.b.size
                  (refine step_append_src _ rfl (.tmp 112) (.tmp 114) _ rfl w2.heap.size 89 i5 _ 5 56 Try.underlying87 hi5 hz50 hz51 hz52 rfl (by decide) _ (0 + dl.length) ([] ++ dl.flatMap Stp.cells) rfl HO.out _ 1 (Stp.cells s) rfl rfl H7.out.src (by simp [Stp.cells, Value.oneCell']) (by unfold maxLen; omega) (by omega) (by first | (simp; done) | omega | (simp; omega)) ?_; intro v8 w8 hown8 hg8 hat8 hty8; have HTY8 := Lib.hid hty8; clear hty8)
                  have HX8 := Lib.hid (HX.out.app hg8)
                  obtain ⟨g8, o8, c8, rfl, q1, q2, hsl, hg8x, hbl⟩ := HX.out.done hown8 hg8
                  have HSL := Lib.hid hsl
                  have HBL := Lib.hid hbl
                  clear hown8 hg8 hat8 hsl hbl HX hbz
                  have HX := HX8
                  refine hK.out _ _ (fun _ => HX.out.y.loads) ?_
                  clear hK K
                  try simp only [Act.put, List.setIfInBounds_toArray, List.set_cons_zero, List.set_cons_succ]
                  refine wpAnyK_take2 (i := 6) (some 6) (v := ?v6_3k0) rfl rfl (by kernel_rfl) (by kernel_rfl) (by kernel_rfl) (by kernel_rfl) (fun _ _ _ h => h) (Or.inl ⟨by rfl, ?y6_3k0⟩) (fun _ => HX.out.y.loads) ?r6_3k0
                  case y6_3k0 =>
                    intro w hSw
                    go_simp
                    try with_reducible rfl
                  try simp only [Act.put, List.setIfInBounds_toArray, List.set_cons_zero, List.set_cons_succ]
                  refine wpAnyK_done (by kernel_rfl) ?_ _
                  clear HX HO H7
                  by_cases hfm : dl.length + 1 ≤ mo
                  · have hd1 := no (show ¬ (mo : Int) < (dl.length : Int) + 1 by omega)
                    have hd2 := no (show ¬ mo < dl.length + 1 by omega)
                    have HF := Lib.hid (HM.out.few HBL.out HSL.out (fun i e => (Option.some.inj e).symm) hg8x hfm)
                    clear hfm
                    go_wp2_with fail
                    go_meet
                    exact ⟨_, _, _, HF.out⟩
                  · have hd1 : (mo : Int) < (dl.length : Int) + 1 := by omega
                    have hd2 : mo < dl.length + 1 := by omega
                    have hd3 : (1 : Int) ≤ (dl.length : Int) + 1 := by omega
                    obtain ⟨r, hr⟩ := HM.out.full1 HBL.out HSL.out hg8x hfm hm1 q1
                    have HF := Lib.hid hr
                    clear hfm hr
                    go_wp2_with fail
                    go_meet
                    exact ⟨_, _, _, HF.out⟩
                exact AllReadyK.nil
              exact AllReadyK.nil
            refine AllReadyK.cons (i := 4) rfl (fun K hK => ?_) ?_
            · refine step_build1 (.tmp 113) _ _ rfl rfl rfl (build_stp _ s) ?_
              have HX := Lib.hid (HX.out.below (below_alloc (Below.refl _ _) (.cells #[.int .i64 s.ed.pos, .string (B s.ed.del), .string (B s.ed.ins), .int .i64 s.ahead, .int .i64 s.behind] 89)))
              have H7 := Lib.hid (StpBox.new Wc s 89)
              try have hne : Wc.heap.size ≠ g0 := by have := HO.out.lt g0 rfl; omega
              try have HO := Lib.hid (HO.out.below (below_alloc (Below.refl _ _) (.cells #[.int .i64 s.ed.pos, .string (B s.ed.del), .string (B s.ed.ins), .int .i64 s.ahead, .int .i64 s.behind] 89)))
              generalize Wc.heap.size = g7 at *
              generalize Wc.alloc (.cells #[.int .i64 s.ed.pos, .string (B s.ed.del), .string (B s.ed.ins), .int .i64 s.ahead, .int .i64 s.behind] 89) = Wc at *
              refine hK.out _ _ (fun _ => HX.out.y.loads) ?_
              clear hK K
              try simp only [Act.put, List.setIfInBounds_toArray, List.set_cons_zero, List.set_cons_succ]
              refine wpAnyK_ready (rs := [2]) (by kernel_rfl) (by simp) ?_
              refine AllReadyK.cons (i := 2) rfl (fun K hK => ?_) ?_
              · have hbz := HX.out.b.size
                (refine step_append_src _ rfl (.tmp 110) (.tmp 111) _ rfl w2.heap.size 89 i5 _ 5 56 Try.underlying87 hi5 hz50 hz51 hz52 rfl (by decide) _ 0 [] rfl HO.out _ dl.length (dl.flatMap Stp.cells) rfl (by rw [stp_flat]) (HX.out.x.src stp_len) stp_one (by unfold maxLen; omega) (by omega) (by first | (simp; done) | omega | (simp; omega)) ?_; intro v3 w3 hown3 hg3 hat3 hty3; have HTY3 := Lib.hid hty3; clear hty3)
                have HX := Lib.hid (HX.out.app hg3)
                try have H7 := Lib.hid (H7.out.keeps hg3 (fun hf => hne (Option.some.inj hf.1).symm))
                have HO := Lib.hid hown3
                clear hown3 hg3 hat3 hbz
                obtain ⟨Wc, rfl⟩ : ∃ W, W = w3 := ⟨_, rfl⟩
                refine hK.out _ _ (fun _ => HX.out.y.loads) ?_
                clear hK K
                try simp only [Act.put, List.setIfInBounds_toArray, List.set_cons_zero, List.set_cons_succ]
                refine wpAnyK_ready (rs := [5]) (by kernel_rfl) (by simp) ?_
                refine AllReadyK.cons (i := 5) rfl (fun K hK => ?_) ?_
                · have hbz := HX.out.b.size
                  (refine step_append_src _ rfl (.tmp 112) (.tmp 114) _ rfl w2.heap.size 89 i5 _ 5 56 Try.underlying87 hi5 hz50 hz51 hz52 rfl (by decide) _ (0 + dl.length) ([] ++ dl.flatMap Stp.cells) rfl HO.out _ 1 (Stp.cells s) rfl rfl H7.out.src (by simp [Stp.cells, Value.oneCell']) (by unfold maxLen; omega) (by omega) (by first | (simp; done) | omega | (simp; omega)) ?_; intro v8 w8 hown8 hg8 hat8 hty8; have HTY8 := Lib.hid hty8; clear hty8)
                  have HX8 := Lib.hid (HX.out.app hg8)
                  obtain ⟨g8, o8, c8, rfl, q1, q2, hsl, hg8x, hbl⟩ := HX.out.done hown8 hg8
                  have HSL := Lib.hid hsl
                  have HBL := Lib.hid hbl
                  clear hown8 hg8 hat8 hsl hbl HX hbz
                  have HX := HX8
                  refine hK.out _ _ (fun _ => HX.out.y.loads) ?_
                  clear hK K
                  try simp only [Act.put, List.setIfInBounds_toArray, List.set_cons_zero, List.set_cons_succ]
                  refine wpAnyK_take2 (i := 6) (some 6) (v := ?v6_4k0) rfl rfl (by kernel_rfl) (by kernel_rfl) (by kernel_rfl) (by kernel_rfl) (fun _ _ _ h => h) (Or.inl ⟨by rfl, ?y6_4k0⟩) (fun _ => HX.out.y.loads) ?r6_4k0
                  case y6_4k0 =>
                    intro w hSw
                    go_simp
                    try with_reducible rfl
                  try simp only [Act.put, List.setIfInBounds_toArray, List.set_cons_zero, List.set_cons_succ]
                  refine wpAnyK_done (by kernel_rfl) ?_ _
                  clear HX HO H7
                  by_cases hfm : dl.length + 1 ≤ mo
                  · have hd1 := no (show ¬ (mo : Int) < (dl.length : Int) + 1 by omega)
                    have hd2 := no (show ¬ mo < dl.length + 1 by omega)
                    have HF := Lib.hid (HM.out.few HBL.out HSL.out (fun i e => (Option.some.inj e).symm) hg8x hfm)
                    clear hfm
                    go_wp2_with fail
                    go_meet
                    exact ⟨_, _, _, HF.out⟩
                  · have hd1 : (mo : Int) < (dl.length : Int) + 1 := by omega
                    have hd2 : mo < dl.length + 1 := by omega
                    have hd3 : (1 : Int) ≤ (dl.length : Int) + 1 := by omega
                    obtain ⟨r, hr⟩ := HM.out.full1 HBL.out HSL.out hg8x hfm hm1 q1
                    have HF := Lib.hid hr
                    clear hfm hr
                    go_wp2_with fail
                    go_meet
                    exact ⟨_, _, _, HF.out⟩
                exact AllReadyK.nil
              exact AllReadyK.nil
            exact AllReadyK.nil
          refine AllReadyK.cons (i := 4) rfl (fun K hK => ?_) ?_
          · refine step_build1 (.tmp 113) _ _ rfl rfl rfl (build_stp _ s) ?_
            have HX := Lib.hid (HX.out.below (below_alloc (Below.refl _ _) (.cells #[.int .i64 s.ed.pos, .string (B s.ed.del), .string (B s.ed.ins), .int .i64 s.ahead, .int .i64 s.behind] 89)))
            have H7 := Lib.hid (StpBox.new Wc s 89)
            try have hne : Wc.heap.size ≠ g0 := by have := HO.out.lt g0 rfl; omega
            try have HO := Lib.hid (HO.out.below (below_alloc (Below.refl _ _) (.cells #[.int .i64 s.ed.pos, .string (B s.ed.del), .string (B s.ed.ins), .int .i64 s.ahead, .int .i64 s.behind] 89)))
            generalize Wc.heap.size = g7 at *
            generalize Wc.alloc (.cells #[.int .i64 s.ed.pos, .string (B s.ed.del), .string (B s.ed.ins), .int .i64 s.ahead, .int .i64 s.behind] 89) = Wc at *
            refine hK.out _ _ (fun _ => HX.out.y.loads) ?_
            clear hK K
            try simp only [Act.put, List.setIfInBounds_toArray, List.set_cons_zero, List.set_cons_succ]
            refine wpAnyK_ready (rs := [0]) (by kernel_rfl) (by simp) ?_
            refine AllReadyK.cons (i := 0) rfl (fun K hK => ?_) ?_
            · refine step_build0 _ rfl rfl (build_stp0 _) ?_
              have HX := Lib.hid (HX.out.below (below_alloc (Below.refl _ _) (.cells #[] 89)))
              have HO : Hid (Own (Wc.alloc (.cells #[] 89)) w2.heap.size 5 (.slice (some ⟨Wc.heap.size, 0, none⟩) 0 0) 0 []) := Own.none_ _ _ _ _ _ (by simp)
              try have hne : g7 ≠ Wc.heap.size := by have := H7.out.lt; omega
              try have H7 := Lib.hid (H7.out.below (below_alloc (Below.refl _ _) (.cells #[] 89)))
              generalize Wc.heap.size = g0 at *
              generalize Wc.alloc (.cells #[] 89) = Wc at *
              refine hK.out _ _ (fun _ => HX.out.y.loads) ?_
              clear hK K
              try simp only [Act.put, List.setIfInBounds_toArray, List.set_cons_zero, List.set_cons_succ]
              refine wpAnyK_ready (rs := [2]) (by kernel_rfl) (by simp) ?_
              refine AllReadyK.cons (i := 2) rfl (fun K hK => ?_) ?_
              · have hbz := HX.out.b.size
                (refine step_append_src _ rfl (.tmp 110) (.tmp 111) _ rfl w2.heap.size 89 i5 _ 5 56 Try.underlying87 hi5 hz50 hz51 hz52 rfl (by decide) _ 0 [] rfl HO.out _ dl.length (dl.flatMap Stp.cells) rfl (by rw [stp_flat]) (HX.out.x.src stp_len) stp_one (by unfold maxLen; omega) (by omega) (by first | (simp; done) | omega | (simp; omega)) ?_; intro v3 w3 hown3 hg3 hat3 hty3; have HTY3 := Lib.hid hty3; clear hty3)
                have HX := Lib.hid (HX.out.app hg3)
                try have H7 := Lib.hid (H7.out.keeps hg3 (fun hf => hne (Option.some.inj hf.1).symm))
                have HO := Lib.hid hown3
                clear hown3 hg3 hat3 hbz
                obtain ⟨Wc, rfl⟩ : ∃ W, W = w3 := ⟨_, rfl⟩
                refine hK.out _ _ (fun _ => HX.out.y.loads) ?_
                clear hK K
                try simp only [Act.put, List.setIfInBounds_toArray, List.set_cons_zero, List.set_cons_succ]
                refine wpAnyK_ready (rs := [5]) (by kernel_rfl) (by simp) ?_
                refine AllReadyK.cons (i := 5) rfl (fun K hK => ?_) ?_
                · have hbz := HX.out.b.size
                  (refine step_append_src _ rfl (.tmp 112) (.tmp 114) _ rfl w2.heap.size 89 i5 _ 5 56 Try.underlying87 hi5 hz50 hz51 hz52 rfl (by decide) _ (0 + dl.length) ([] ++ dl.flatMap Stp.cells) rfl HO.out _ 1 (Stp.cells s) rfl rfl H7.out.src (by simp [Stp.cells, Value.oneCell']) (by unfold maxLen; omega) (by omega) (by first | (simp; done) | omega | (simp; omega)) ?_; intro v8 w8 hown8 hg8 hat8 hty8; have HTY8 := Lib.hid hty8; clear hty8)
                  have HX8 := Lib.hid (HX.out.app hg8)
                  obtain ⟨g8, o8, c8, rfl, q1, q2, hsl, hg8x, hbl⟩ := HX.out.done hown8 hg8
                  have HSL := Lib.hid hsl
                  have HBL := Lib.hid hbl
                  clear hown8 hg8 hat8 hsl hbl HX hbz
                  have HX := HX8
                  refine hK.out _ _ (fun _ => HX.out.y.loads) ?_
                  clear hK K
                  try simp only [Act.put, List.setIfInBounds_toArray, List.set_cons_zero, List.set_cons_succ]
                  refine wpAnyK_take2 (i := 6) (some 6) (v := ?v6_5k0) rfl rfl (by kernel_rfl) (by kernel_rfl) (by kernel_rfl) (by kernel_rfl) (fun _ _ _ h => h) (Or.inl ⟨by rfl, ?y6_5k0⟩) (fun _ => HX.out.y.loads) ?r6_5k0
                  case y6_5k0 =>
                    intro w hSw
                    go_simp
                    try with_reducible rfl
                  try simp only [Act.put, List.setIfInBounds_toArray, List.set_cons_zero, List.set_cons_succ]
                  refine wpAnyK_done (by kernel_rfl) ?_ _
                  clear HX HO H7
                  by_cases hfm : dl.length + 1 ≤ mo
                  · have hd1 := no (show ¬ (mo : Int) < (dl.length : Int) + 1 by omega)
                    have hd2 := no (show ¬ mo < dl.length + 1 by omega)
                    have HF := Lib.hid (HM.out.few HBL.out HSL.out (fun i e => (Option.some.inj e).symm) hg8x hfm)
                    clear hfm
                    go_wp2_with fail
                    go_meet
                    exact ⟨_, _, _, HF.out⟩
                  · have hd1 : (mo : Int) < (dl.length : Int) + 1 := by omega
                    have hd2 : mo < dl.length + 1 := by omega
                    have hd3 : (1 : Int) ≤ (dl.length : Int) + 1 := by omega
                    obtain ⟨r, hr⟩ := HM.out.full1 HBL.out HSL.out hg8x hfm hm1 q1
                    have HF := Lib.hid hr
                    clear hfm hr
                    go_wp2_with fail
                    go_meet
                    exact ⟨_, _, _, HF.out⟩
                exact AllReadyK.nil
              exact AllReadyK.nil
            exact AllReadyK.nil
          exact AllReadyK.nil
      · as_aux_lemma =>
          have HPU := Lib.hid fun W h => push_a W w.heap.size jb lv mo (dl ++ ul) dl.length s false h (.inl rfl) (by simp; omega) hm1 (by omega)
          unfold Stp.val at HPU
          go_wp2
          (refine wp_region_grow_tail 8 (by kernel_rfl) (by kernel_rfl) ?_; simp only [List.take_succ_cons, List.take_zero, List.drop_succ_cons, List.drop_zero]; (repeat (go_big_quiet_step (fail))); refine wpQuiet_nil ?_; intro _ hw'; obtain ⟨gq, hw''⟩ := hw'; subst hw'')
          go_wp2_with (go_at_call 52; refine (HPU.out _ (HI0.out.j.below (grow_below W0 gq))).mono ?_; rintro e w2 ⟨rfl, lv2, hj2, hk2⟩; have HM := Lib.hid ((HI0.out.below (grow_below W0 gq)).pushed (HY0.out.below (grow_below W0 gq)) hsb1 HSB2.out ⟨hs1, hs2⟩ hj2 hk2); have f0 := HC.out w2 HM.out.bl; haveI : Old w2 b := ⟨Nat.lt_of_lt_of_le hb HM.out.bl.size⟩; clear hj2 hk2)
          refine wp_region_keyed (fun W => W.cell? ⟨sb, 0, none⟩ = some (.int .i64 s.ed.pos) ∧ W.cell? ⟨sb, 1, none⟩ = some (.string (B s.ed.del)) ∧ W.cell? ⟨sb, 2, none⟩ = some (.string (B s.ed.ins)) ∧ W.cell? ⟨sb, 3, none⟩ = some (.int .i64 s.ahead) ∧ W.cell? ⟨sb, 4, none⟩ = some (.int .i64 s.behind)) [] (by kernel_rfl) ?_
          have HX := Lib.hid (HM.out.rs rfl)
          generalize w2.drew = Wc at *
          refine wpAnyK_take2 (i := 1) (some 111) (v := ?v1_1k1) rfl rfl (by kernel_rfl) (by kernel_rfl) (by kernel_rfl) (by kernel_rfl) (fun _ _ _ h => h) (Or.inl ⟨by rfl, ?y1_1k1⟩) (fun _ => HX.out.y.loads) ?r1_1k1
          case y1_1k1 =>
            intro w hSw
            go_simp
            try with_reducible rfl
          try simp only [Act.put, List.setIfInBounds_toArray, List.set_cons_zero, List.set_cons_succ]
          refine wpAnyK_load2 (i := 3) [4, 5, 6] (some 113) (v := ?v3_2k1) rfl rfl (by kernel_rfl) (by kernel_rfl) (by kernel_rfl) (by kernel_rfl) (by kernel_rfl) (fun _ _ _ h => h) (Or.inl ⟨by rfl, ?y3_2k1⟩) (fun _ => HX.out.y.loads) ?r3_2k1
          case y3_2k1 =>
            intro w hSw
            (try dsimp only at hSw)
            go_split_ands
            go_simp
            try with_reducible rfl
          try simp only [Act.put, List.setIfInBounds_toArray, List.set_cons_zero, List.set_cons_succ]
          refine wpAnyK_ready (rs := [0, 4]) (by kernel_rfl) (by simp) ?_
          refine AllReadyK.cons (i := 0) rfl (fun K hK => ?_) ?_
          · refine step_build0 _ rfl rfl (build_stp0 _) ?_
            have HX := Lib.hid (HX.out.below (below_alloc (Below.refl _ _) (.cells #[] 89)))
            have HO : Hid (Own (Wc.alloc (.cells #[] 89)) w2.heap.size 5 (.slice (some ⟨Wc.heap.size, 0, none⟩) 0 0) 0 []) := Own.none_ _ _ _ _ _ (by simp)
            try have hne : g7 ≠ Wc.heap.size := by have := H7.out.lt; omega
            try have H7 := Lib.hid (H7.out.below (below_alloc (Below.refl _ _) (.cells #[] 89)))
            generalize Wc.heap.size = g0 at *
            generalize Wc.alloc (.cells #[] 89) = Wc at *
            refine hK.out _ _ (fun _ => HX.out.y.loads) ?_
            clear hK K
            try simp only [Act.put, List.setIfInBounds_toArray, List.set_cons_zero, List.set_cons_succ]
            refine wpAnyK_ready (rs := [2, 4]) (by kernel_rfl) (by simp) ?_
            refine AllReadyK.cons (i := 2) rfl (fun K hK => ?_) ?_
            · have hbz := HX.out.b.size
              (refine step_append_src _ rfl (.tmp 110) (.tmp 111) _ rfl w2.heap.size 89 i5 _ 5 56 Try.underlying87 hi5 hz50 hz51 hz52 rfl (by decide) _ 0 [] rfl HO.out _ dl.length (dl.flatMap Stp.cells) rfl (by rw [stp_flat]) (HX.out.x.src stp_len) stp_one (by unfold maxLen; omega) (by omega) (by first | (simp; done) | omega | (simp; omega)) ?_; intro v3 w3 hown3 hg3 hat3 hty3; have HTY3 := Lib.hid hty3; clear hty3)
              have HX := Lib.hid (HX.out.app hg3)
              try have H7 := Lib.hid (H7.out.keeps hg3 (fun hf => hne (Option.some.inj hf.1).symm))
              have HO := Lib.hid hown3
              clear hown3 hg3 hat3 hbz
              obtain ⟨Wc, rfl⟩ : ∃ W, W = w3 := ⟨_, rfl⟩
              refine hK.out _ _ (fun _ => HX.out.y.loads) ?_
              clear hK K
              try simp only [Act.put, List.setIfInBounds_toArray, List.set_cons_zero, List.set_cons_succ]
              refine wpAnyK_ready (rs := [4]) (by kernel_rfl) (by simp) ?_
              refine AllReadyK.cons (i := 4) rfl (fun K hK => ?_) ?_
              · refine step_build1 (.tmp 113) _ _ rfl rfl rfl (build_stp _ s) ?_
                have HX := Lib.hid (HX.out.below (below_alloc (Below.refl _ _) (.cells #[.int .i64 s.ed.pos, .string (B s.ed.del), .string (B s.ed.ins), .int .i64 s.ahead, .int .i64 s.behind] 89)))
                have H7 := Lib.hid (StpBox.new Wc s 89)
                try have hne : Wc.heap.size ≠ g0 := by have := HO.out.lt g0 rfl; omega
                try have HO := Lib.hid (HO.out.below (below_alloc (Below.refl _ _) (.cells #[.int .i64 s.ed.pos, .string (B s.ed.del), .string (B s.ed.ins), .int .i64 s.ahead, .int .i64 s.behind] 89)))
                generalize Wc.heap.size = g7 at *
                generalize Wc.alloc (.cells #[.int .i64 s.ed.pos, .string (B s.ed.del), .string (B s.ed.ins), .int .i64 s.ahead, .int .i64 s.behind] 89) = Wc at *
                refine hK.out _ _ (fun _ => HX.out.y.loads) ?_
                clear hK K
                try simp only [Act.put, List.setIfInBounds_toArray, List.set_cons_zero, List.set_cons_succ]
                refine wpAnyK_ready (rs := [5]) (by kernel_rfl) (by simp) ?_
                refine AllReadyK.cons (i := 5) rfl (fun K hK => ?_) ?_
                · have hbz := HX.out.b.size
                  (refine step_append_src _ rfl (.tmp 112) (.tmp 114) _ rfl w2.heap.size 89 i5 _ 5 56 Try.underlying87 hi5 hz50 hz51 hz52 rfl (by decide) _ (0 + dl.length) ([] ++ dl.flatMap Stp.cells) rfl HO.out _ 1 (Stp.cells s) rfl rfl H7.out.src (by simp [Stp.cells, Value.oneCell']) (by unfold maxLen; omega) (by omega) (by first | (simp; done) | omega | (simp; omega)) ?_; intro v8 w8 hown8 hg8 hat8 hty8; have HTY8 := Lib.hid hty8; clear hty8)
                  have HX8 := Lib.hid (HX.out.app hg8)
                  obtain ⟨g8, o8, c8, rfl, q1, q2, hsl, hg8x, hbl⟩ := HX.out.done hown8 hg8
                  have HSL := Lib.hid hsl
                  have HBL := Lib.hid hbl
                  clear hown8 hg8 hat8 hsl hbl HX hbz
                  have HX := HX8
                  refine hK.out _ _ (fun _ => HX.out.y.loads) ?_
                  clear hK K
                  try simp only [Act.put, List.setIfInBounds_toArray, List.set_cons_zero, List.set_cons_succ]
                  refine wpAnyK_take2 (i := 6) (some 6) (v := ?v6_3k1) rfl rfl (by kernel_rfl) (by kernel_rfl) (by kernel_rfl) (by kernel_rfl) (fun _ _ _ h => h) (Or.inl ⟨by rfl, ?y6_3k1⟩) (fun _ => HX.out.y.loads) ?r6_3k1
                  case y6_3k1 =>
                    intro w hSw
                    go_simp
                    try with_reducible rfl
                  try simp only [Act.put, List.setIfInBounds_toArray, List.set_cons_zero, List.set_cons_succ]
                  refine wpAnyK_done (by kernel_rfl) ?_ _
                  clear HX HO H7
                  by_cases hfm : dl.length + 1 ≤ mo
                  · have hd1 := no (show ¬ (mo : Int) < (dl.length : Int) + 1 by omega)
                    have hd2 := no (show ¬ mo < dl.length + 1 by omega)
                    have HF := Lib.hid (HM.out.few HBL.out HSL.out (fun i e => (Option.some.inj e).symm) hg8x hfm)
                    clear hfm
                    go_wp2_with fail
                    go_meet
                    exact ⟨_, _, _, HF.out⟩
                  · have hd1 : (mo : Int) < (dl.length : Int) + 1 := by omega
                    have hd2 : mo < dl.length + 1 := by omega
                    have hd3 : (1 : Int) ≤ (dl.length : Int) + 1 := by omega
                    obtain ⟨r, hr⟩ := HM.out.full1 HBL.out HSL.out hg8x hfm hm1 q1
                    have HF := Lib.hid hr
                    clear hfm hr
                    go_wp2_with fail
                    go_meet
                    exact ⟨_, _, _, HF.out⟩
                exact AllReadyK.nil
              exact AllReadyK.nil
            refine AllReadyK.cons (i := 4) rfl (fun K hK => ?_) ?_
            · refine step_build1 (.tmp 113) _ _ rfl rfl rfl (build_stp _ s) ?_
              have HX := Lib.hid (HX.out.below (below_alloc (Below.refl _ _) (.cells #[.int .i64 s.ed.pos, .string (B s.ed.del), .string (B s.ed.ins), .int .i64 s.ahead, .int .i64 s.behind] 89)))
              have H7 := Lib.hid (StpBox.new Wc s 89)
              try have hne : Wc.heap.size ≠ g0 := by have := HO.out.lt g0 rfl; omega
              try have HO := Lib.hid (HO.out.below (below_alloc (Below.refl _ _) (.cells #[.int .i64 s.ed.pos, .string (B s.ed.del), .string (B s.ed.ins), .int .i64 s.ahead, .int .i64 s.behind] 89)))
              generalize Wc.heap.size = g7 at *
              generalize Wc.alloc (.cells #[.int .i64 s.ed.pos, .string (B s.ed.del), .string (B s.ed.ins), .int .i64 s.ahead, .int .i64 s.behind] 89) = Wc at *
              refine hK.out _ _ (fun _ => HX.out.y.loads) ?_
              clear hK K
              try simp only [Act.put, List.setIfInBounds_toArray, List.set_cons_zero, List.set_cons_succ]
              refine wpAnyK_ready (rs := [2]) (by kernel_rfl) (by simp) ?_
              refine AllReadyK.cons (i := 2) rfl (fun K hK => ?_) ?_
              · have hbz := HX.out.b.size
                (refine step_append_src _ rfl (.tmp 110) (.tmp 111) _ rfl w2.heap.size 89 i5 _ 5 56 Try.underlying87 hi5 hz50 hz51 hz52 rfl (by decide) _ 0 [] rfl HO.out _ dl.length (dl.flatMap Stp.cells) rfl (by rw [stp_flat]) (HX.out.x.src stp_len) stp_one (by unfold maxLen; omega) (by omega) (by first | (simp; done) | omega | (simp; omega)) ?_; intro v3 w3 hown3 hg3 hat3 hty3; have HTY3 := Lib.hid hty3; clear hty3)
                have HX := Lib.hid (HX.out.app hg3)
                try have H7 := Lib.hid (H7.out.keeps hg3 (fun hf => hne (Option.some.inj hf.1).symm))
                have HO := Lib.hid hown3
                clear hown3 hg3 hat3 hbz
                obtain ⟨Wc, rfl⟩ : ∃ W, W = w3 := ⟨_, rfl⟩
                refine hK.out _ _ (fun _ => HX.out.y.loads) ?_
                clear hK K
                try simp only [Act.put, List.setIfInBounds_toArray, List.set_cons_zero, List.set_cons_succ]
                refine wpAnyK_ready (rs := [5]) (by kernel_rfl) (by simp) ?_
                refine AllReadyK.cons (i := 5) rfl (fun K hK => ?_) ?_
                · have hbz := HX.out.b.size
                  (refine step_append_src _ rfl (.tmp 112) (.tmp 114) _ rfl w2.heap.size 89 i5 _ 5 56 Try.underlying87 hi5 hz50 hz51 hz52 rfl (by decide) _ (0 + dl.length) ([] ++ dl.flatMap Stp.cells) rfl HO.out _ 1 (Stp.cells s) rfl rfl H7.out.src (by simp [Stp.cells, Value.oneCell']) (by unfold maxLen; omega) (by omega) (by first | (simp; done) | omega | (simp; omega)) ?_; intro v8 w8 hown8 hg8 hat8 hty8; have HTY8 := Lib.hid hty8; clear hty8)
                  have HX8 := Lib.hid (HX.out.app hg8)
                  obtain ⟨g8, o8, c8, rfl, q1, q2, hsl, hg8x, hbl⟩ := HX.out.done hown8 hg8
                  have HSL := Lib.hid hsl
                  have HBL := Lib.hid hbl
                  clear hown8 hg8 hat8 hsl hbl HX hbz
                  have HX := HX8
                  refine hK.out _ _ (fun _ => HX.out.y.loads) ?_
                  clear hK K
                  try simp only [Act.put, List.setIfInBounds_toArray, List.set_cons_zero, List.set_cons_succ]
                  refine wpAnyK_take2 (i := 6) (some 6) (v := ?v6_4k1) rfl rfl (by kernel_rfl) (by kernel_rfl) (by kernel_rfl) (by kernel_rfl) (fun _ _ _ h => h) (Or.inl ⟨by rfl, ?y6_4k1⟩) (fun _ => HX.out.y.loads) ?r6_4k1
                  case y6_4k1 =>
                    intro w hSw
                    go_simp
                    try with_reducible rfl
                  try simp only [Act.put, List.setIfInBounds_toArray, List.set_cons_zero, List.set_cons_succ]
                  refine wpAnyK_done (by kernel_rfl) ?_ _
                  clear HX HO H7
                  by_cases hfm : dl.length + 1 ≤ mo
                  · have hd1 := no (show ¬ (mo : Int) < (dl.length : Int) + 1 by omega)
                    have hd2 := no (show ¬ mo < dl.length + 1 by omega)
                    have HF := Lib.hid (HM.out.few HBL.out HSL.out (fun i e => (Option.some.inj e).symm) hg8x hfm)
                    clear hfm
                    go_wp2_with fail
                    go_meet
                    exact ⟨_, _, _, HF.out⟩
                  · have hd1 : (mo : Int) < (dl.length : Int) + 1 := by omega
                    have hd2 : mo < dl.length + 1 := by omega
                    have hd3 : (1 : Int) ≤ (dl.length : Int) + 1 := by omega
                    obtain ⟨r, hr⟩ := HM.out.full1 HBL.out HSL.out hg8x hfm hm1 q1
                    have HF := Lib.hid hr
                    clear hfm hr
                    go_wp2_with fail
                    go_meet
                    exact ⟨_, _, _, HF.out⟩
                exact AllReadyK.nil
              exact AllReadyK.nil
            exact AllReadyK.nil
          refine AllReadyK.cons (i := 4) rfl (fun K hK => ?_) ?_
          · refine step_build1 (.tmp 113) _ _ rfl rfl rfl (build_stp _ s) ?_
            have HX := Lib.hid (HX.out.below (below_alloc (Below.refl _ _) (.cells #[.int .i64 s.ed.pos, .string (B s.ed.del), .string (B s.ed.ins), .int .i64 s.ahead, .int .i64 s.behind] 89)))
            have H7 := Lib.hid (StpBox.new Wc s 89)
            try have hne : Wc.heap.size ≠ g0 := by have := HO.out.lt g0 rfl; omega
            try have HO := Lib.hid (HO.out.below (below_alloc (Below.refl _ _) (.cells #[.int .i64 s.ed.pos, .string (B s.ed.del), .string (B s.ed.ins), .int .i64 s.ahead, .int .i64 s.behind] 89)))
            generalize Wc.heap.size = g7 at *
            generalize Wc.alloc (.cells #[.int .i64 s.ed.pos, .string (B s.ed.del), .string (B s.ed.ins), .int .i64 s.ahead, .int .i64 s.behind] 89) = Wc at *
            refine hK.out _ _ (fun _ => HX.out.y.loads) ?_
            clear hK K
            try simp only [Act.put, List.setIfInBounds_toArray, List.set_cons_zero, List.set_cons_succ]
            refine wpAnyK_ready (rs := [0]) (by kernel_rfl) (by simp) ?_
            refine AllReadyK.cons (i := 0) rfl (fun K hK => ?_) ?_
            · refine step_build0 _ rfl rfl (build_stp0 _) ?_
              have HX := Lib.hid (HX.out.below (below_alloc (Below.refl _ _) (.cells #[] 89)))
              have HO : Hid (Own (Wc.alloc (.cells #[] 89)) w2.heap.size 5 (.slice (some ⟨Wc.heap.size, 0, none⟩) 0 0) 0 []) := Own.none_ _ _ _ _ _ (by simp)
              try have hne : g7 ≠ Wc.heap.size := by have := H7.out.lt; omega
              try have H7 := Lib.hid (H7.out.below (below_alloc (Below.refl _ _) (.cells #[] 89)))
              generalize Wc.heap.size = g0 at *
              generalize Wc.alloc (.cells #[] 89) = Wc at *
              refine hK.out _ _ (fun _ => HX.out.y.loads) ?_
              clear hK K
              try simp only [Act.put, List.setIfInBounds_toArray, List.set_cons_zero, List.set_cons_succ]
              refine wpAnyK_ready (rs := [2]) (by kernel_rfl) (by simp) ?_
              refine AllReadyK.cons (i := 2) rfl (fun K hK => ?_) ?_
              · have hbz := HX.out.b.size
                (refine step_append_src _ rfl (.tmp 110) (.tmp 111) _ rfl w2.heap.size 89 i5 _ 5 56 Try.underlying87 hi5 hz50 hz51 hz52 rfl (by decide) _ 0 [] rfl HO.out _ dl.length (dl.flatMap Stp.cells) rfl (by rw [stp_flat]) (HX.out.x.src stp_len) stp_one (by unfold maxLen; omega) (by omega) (by first | (simp; done) | omega | (simp; omega)) ?_; intro v3 w3 hown3 hg3 hat3 hty3; have HTY3 := Lib.hid hty3; clear hty3)
                have HX := Lib.hid (HX.out.app hg3)
                try have H7 := Lib.hid (H7.out.keeps hg3 (fun hf => hne (Option.some.inj hf.1).symm))
                have HO := Lib.hid hown3
                clear hown3 hg3 hat3 hbz
                obtain ⟨Wc, rfl⟩ : ∃ W, W = w3 := ⟨_, rfl⟩
                refine hK.out _ _ (fun _ => HX.out.y.loads) ?_
                clear hK K
                try simp only [Act.put, List.setIfInBounds_toArray, List.set_cons_zero, List.set_cons_succ]
                refine wpAnyK_ready (rs := [5]) (by kernel_rfl) (by simp) ?_
                refine AllReadyK.cons (i := 5) rfl (fun K hK => ?_) ?_
                · have hbz := HX.out.b.size
                  (refine step_append_src _ rfl (.tmp 112) (.tmp 114) _ rfl w2.heap.size 89 i5 _ 5 56 Try.underlying87 hi5 hz50 hz51 hz52 rfl (by decide) _ (0 + dl.length) ([] ++ dl.flatMap Stp.cells) rfl HO.out _ 1 (Stp.cells s) rfl rfl H7.out.src (by simp [Stp.cells, Value.oneCell']) (by unfold maxLen; omega) (by omega) (by first | (simp; done) | omega | (simp; omega)) ?_; intro v8 w8 hown8 hg8 hat8 hty8; have HTY8 := Lib.hid hty8; clear hty8)
                  have HX8 := Lib.hid (HX.out.app hg8)
                  obtain ⟨g8, o8, c8, rfl, q1, q2, hsl, hg8x, hbl⟩ := HX.out.done hown8 hg8
                  have HSL := Lib.hid hsl
                  have HBL := Lib.hid hbl
                  clear hown8 hg8 hat8 hsl hbl HX hbz
                  have HX := HX8
                  refine hK.out _ _ (fun _ => HX.out.y.loads) ?_
                  clear hK K
                  try simp only [Act.put, List.setIfInBounds_toArray, List.set_cons_zero, List.set_cons_succ]
                  refine wpAnyK_take2 (i := 6) (some 6) (v := ?v6_5k1) rfl rfl (by kernel_rfl) (by kernel_rfl) (by kernel_rfl) (by kernel_rfl) (fun _ _ _ h => h) (Or.inl ⟨by rfl, ?y6_5k1⟩) (fun _ => HX.out.y.loads) ?r6_5k1
                  case y6_5k1 =>
                    intro w hSw
                    go_simp
                    try with_reducible rfl
                  try simp only [Act.put, List.setIfInBounds_toArray, List.set_cons_zero, List.set_cons_succ]
                  refine wpAnyK_done (by kernel_rfl) ?_ _
                  clear HX HO H7
                  by_cases hfm : dl.length + 1 ≤ mo
                  · have hd1 := no (show ¬ (mo : Int) < (dl.length : Int) + 1 by omega)
                    have hd2 := no (show ¬ mo < dl.length + 1 by omega)
                    have HF := Lib.hid (HM.out.few HBL.out HSL.out (fun i e => (Option.some.inj e).symm) hg8x hfm)
                    clear hfm
                    go_wp2_with fail
                    go_meet
                    exact ⟨_, _, _, HF.out⟩
                  · have hd1 : (mo : Int) < (dl.length : Int) + 1 := by omega
                    have hd2 : mo < dl.length + 1 := by omega
                    have hd3 : (1 : Int) ≤ (dl.length : Int) + 1 := by omega
                    obtain ⟨r, hr⟩ := HM.out.full1 HBL.out HSL.out hg8x hfm hm1 q1
                    have HF := Lib.hid hr
                    clear hfm hr
                    go_wp2_with fail
                    go_meet
                    exact ⟨_, _, _, HF.out⟩
                exact AllReadyK.nil
              exact AllReadyK.nil
            exact AllReadyK.nil
          exact AllReadyK.nil
      · rcases List.eq_nil_or_concat dl with hd0 | ⟨l1, x, hdl⟩
        · as_aux_lemma =>
            have HD0 := Lib.hid (show dl.length = 0 by rw [hd0]; rfl)
            have HPU := Lib.hid fun W h => push_a W w.heap.size jb lv mo (dl ++ ul) dl.length s true h (.inr HD0.out) (by simp; omega) hm1 (by omega)
            unfold Stp.val at HPU
            have hz1 := no (show ¬ 0 < dl.length by have := HD0.out; omega)
            have hz2 := no (show ¬ (0 : Int) < (dl.length : Int) by have := HD0.out; omega)
            clear hd0
            go_wp2_with fail
            (refine wp_region_grow_tail 8 (by kernel_rfl) (by kernel_rfl) ?_; simp only [List.take_succ_cons, List.take_zero, List.drop_succ_cons, List.drop_zero]; (repeat (go_big_quiet_step (fail))); refine wpQuiet_nil ?_; intro _ hw'; obtain ⟨gq, hw''⟩ := hw'; subst hw'')
            go_wp2_with (go_at_call 52; refine (HPU.out _ (HI0.out.j.below (grow_below W0 gq))).mono ?_; rintro e w2 ⟨rfl, lv2, hj2, hk2⟩; have HM := Lib.hid ((HI0.out.below (grow_below W0 gq)).pushed (HY0.out.below (grow_below W0 gq)) hsb1 HSB2.out ⟨hs1, hs2⟩ hj2 hk2); have f0 := HC.out w2 HM.out.bl; haveI : Old w2 b := ⟨Nat.lt_of_lt_of_le hb HM.out.bl.size⟩; clear hj2 hk2)
            refine wp_region_keyed (fun W => W.cell? ⟨sb, 0, none⟩ = some (.int .i64 s.ed.pos) ∧ W.cell? ⟨sb, 1, none⟩ = some (.string (B s.ed.del)) ∧ W.cell? ⟨sb, 2, none⟩ = some (.string (B s.ed.ins)) ∧ W.cell? ⟨sb, 3, none⟩ = some (.int .i64 s.ahead) ∧ W.cell? ⟨sb, 4, none⟩ = some (.int .i64 s.behind)) [] (by kernel_rfl) ?_
            have HX := Lib.hid (HM.out.rs rfl)
            generalize w2.drew = Wc at *
            refine wpAnyK_take2 (i := 1) (some 111) (v := ?v1_1k2a) rfl rfl (by kernel_rfl) (by kernel_rfl) (by kernel_rfl) (by kernel_rfl) (fun _ _ _ h => h) (Or.inl ⟨by rfl, ?y1_1k2a⟩) (fun _ => HX.out.y.loads) ?r1_1k2a
            case y1_1k2a =>
              intro w hSw
              go_simp
              try with_reducible rfl
            try simp only [Act.put, List.setIfInBounds_toArray, List.set_cons_zero, List.set_cons_succ]
            refine wpAnyK_load2 (i := 3) [4, 5, 6] (some 113) (v := ?v3_2k2a) rfl rfl (by kernel_rfl) (by kernel_rfl) (by kernel_rfl) (by kernel_rfl) (by kernel_rfl) (fun _ _ _ h => h) (Or.inl ⟨by rfl, ?y3_2k2a⟩) (fun _ => HX.out.y.loads) ?r3_2k2a
            case y3_2k2a =>
              intro w hSw
              (try dsimp only at hSw)
              go_split_ands
              go_simp
              try with_reducible rfl
            try simp only [Act.put, List.setIfInBounds_toArray, List.set_cons_zero, List.set_cons_succ]
            refine wpAnyK_ready (rs := [0, 4]) (by kernel_rfl) (by simp) ?_
            refine AllReadyK.cons (i := 0) rfl (fun K hK => ?_) ?_
            · refine step_build0 _ rfl rfl (build_stp0 _) ?_
              have HX := Lib.hid (HX.out.below (below_alloc (Below.refl _ _) (.cells #[] 89)))
              have HO : Hid (Own (Wc.alloc (.cells #[] 89)) w2.heap.size 5 (.slice (some ⟨Wc.heap.size, 0, none⟩) 0 0) 0 []) := Own.none_ _ _ _ _ _ (by simp)
              try have hne : g7 ≠ Wc.heap.size := by have := H7.out.lt; omega
              try have H7 := Lib.hid (H7.out.below (below_alloc (Below.refl _ _) (.cells #[] 89)))
              generalize Wc.heap.size = g0 at *
              generalize Wc.alloc (.cells #[] 89) = Wc at *
              refine hK.out _ _ (fun _ => HX.out.y.loads) ?_
              clear hK K
              try simp only [Act.put, List.setIfInBounds_toArray, List.set_cons_zero, List.set_cons_succ]
              refine wpAnyK_ready (rs := [2, 4]) (by kernel_rfl) (by simp) ?_
              refine AllReadyK.cons (i := 2) rfl (fun K hK => ?_) ?_
              · have hbz := HX.out.b.size
                (refine step_append_src _ rfl (.tmp 110) (.tmp 111) _ rfl w2.heap.size 89 i5 _ 5 56 Try.underlying87 hi5 hz50 hz51 hz52 rfl (by decide) _ 0 [] rfl HO.out _ dl.length (dl.flatMap Stp.cells) rfl (by rw [stp_flat]) (HX.out.x.src stp_len) stp_one (by unfold maxLen; omega) (by omega) (by first | (simp; done) | omega | (simp; omega)) ?_; intro v3 w3 hown3 hg3 hat3 hty3; have HTY3 := Lib.hid hty3; clear hty3)
                have HX := Lib.hid (HX.out.app hg3)
                try have H7 := Lib.hid (H7.out.keeps hg3 (fun hf => hne (Option.some.inj hf.1).symm))
                have HO := Lib.hid hown3
                clear hown3 hg3 hat3 hbz
                obtain ⟨Wc, rfl⟩ : ∃ W, W = w3 := ⟨_, rfl⟩
                refine hK.out _ _ (fun _ => HX.out.y.loads) ?_
                clear hK K
                try simp only [Act.put, List.setIfInBounds_toArray, List.set_cons_zero, List.set_cons_succ]
                refine wpAnyK_ready (rs := [4]) (by kernel_rfl) (by simp) ?_
                refine AllReadyK.cons (i := 4) rfl (fun K hK => ?_) ?_
                · refine step_build1 (.tmp 113) _ _ rfl rfl rfl (build_stp _ s) ?_
                  have HX := Lib.hid (HX.out.below (below_alloc (Below.refl _ _) (.cells #[.int .i64 s.ed.pos, .string (B s.ed.del), .string (B s.ed.ins), .int .i64 s.ahead, .int .i64 s.behind] 89)))
                  have H7 := Lib.hid (StpBox.new Wc s 89)
                  try have hne : Wc.heap.size ≠ g0 := by have := HO.out.lt g0 rfl; omega
                  try have HO := Lib.hid (HO.out.below (below_alloc (Below.refl _ _) (.cells #[.int .i64 s.ed.pos, .string (B s.ed.del), .string (B s.ed.ins), .int .i64 s.ahead, .int .i64 s.behind] 89)))
                  generalize Wc.heap.size = g7 at *
                  generalize Wc.alloc (.cells #[.int .i64 s.ed.pos, .string (B s.ed.del), .string (B s.ed.ins), .int .i64 s.ahead, .int .i64 s.behind] 89) = Wc at *
                  refine hK.out _ _ (fun _ => HX.out.y.loads) ?_
                  clear hK K
                  try simp only [Act.put, List.setIfInBounds_toArray, List.set_cons_zero, List.set_cons_succ]
                  refine wpAnyK_ready (rs := [5]) (by kernel_rfl) (by simp) ?_
                  refine AllReadyK.cons (i := 5) rfl (fun K hK => ?_) ?_
                  · have hbz := HX.out.b.size
                    (refine step_append_src _ rfl (.tmp 112) (.tmp 114) _ rfl w2.heap.size 89 i5 _ 5 56 Try.underlying87 hi5 hz50 hz51 hz52 rfl (by decide) _ (0 + dl.length) ([] ++ dl.flatMap Stp.cells) rfl HO.out _ 1 (Stp.cells s) rfl rfl H7.out.src (by simp [Stp.cells, Value.oneCell']) (by unfold maxLen; omega) (by omega) (by first | (simp; done) | omega | (simp; omega)) ?_; intro v8 w8 hown8 hg8 hat8 hty8; have HTY8 := Lib.hid hty8; clear hty8)
                    have HX8 := Lib.hid (HX.out.app hg8)
                    obtain ⟨g8, o8, c8, rfl, q1, q2, hsl, hg8x, hbl⟩ := HX.out.done hown8 hg8
                    have HSL := Lib.hid hsl
                    have HBL := Lib.hid hbl
                    clear hown8 hg8 hat8 hsl hbl HX hbz
                    have HX := HX8
                    refine hK.out _ _ (fun _ => HX.out.y.loads) ?_
                    clear hK K
                    try simp only [Act.put, List.setIfInBounds_toArray, List.set_cons_zero, List.set_cons_succ]
                    refine wpAnyK_take2 (i := 6) (some 6) (v := ?v6_3k2a) rfl rfl (by kernel_rfl) (by kernel_rfl) (by kernel_rfl) (by kernel_rfl) (fun _ _ _ h => h) (Or.inl ⟨by rfl, ?y6_3k2a⟩) (fun _ => HX.out.y.loads) ?r6_3k2a
                    case y6_3k2a =>
                      intro w hSw
                      go_simp
                      try with_reducible rfl
                    try simp only [Act.put, List.setIfInBounds_toArray, List.set_cons_zero, List.set_cons_succ]
                    refine wpAnyK_done (by kernel_rfl) ?_ _
                    clear HX HO H7
                    by_cases hfm : dl.length + 1 ≤ mo
                    · have hd1 := no (show ¬ (mo : Int) < (dl.length : Int) + 1 by omega)
                      have hd2 := no (show ¬ mo < dl.length + 1 by omega)
                      have HF := Lib.hid (HM.out.few HBL.out HSL.out (fun i e => (Option.some.inj e).symm) hg8x hfm)
                      clear hfm
                      go_wp2_with fail
                      go_meet
                      exact ⟨_, _, _, HF.out⟩
                    · have hd1 : (mo : Int) < (dl.length : Int) + 1 := by omega
                      have hd2 : mo < dl.length + 1 := by omega
                      have hd3 : (1 : Int) ≤ (dl.length : Int) + 1 := by omega
                      obtain ⟨r, hr⟩ := HM.out.full1 HBL.out HSL.out hg8x hfm hm1 q1
                      have HF := Lib.hid hr
                      clear hfm hr
                      go_wp2_with fail
                      go_meet
                      exact ⟨_, _, _, HF.out⟩
                  exact AllReadyK.nil
                exact AllReadyK.nil
              refine AllReadyK.cons (i := 4) rfl (fun K hK => ?_) ?_
              · refine step_build1 (.tmp 113) _ _ rfl rfl rfl (build_stp _ s) ?_
                have HX := Lib.hid (HX.out.below (below_alloc (Below.refl _ _) (.cells #[.int .i64 s.ed.pos, .string (B s.ed.del), .string (B s.ed.ins), .int .i64 s.ahead, .int .i64 s.behind] 89)))
                have H7 := Lib.hid (StpBox.new Wc s 89)
                try have hne : Wc.heap.size ≠ g0 := by have := HO.out.lt g0 rfl; omega
                try have HO := Lib.hid (HO.out.below (below_alloc (Below.refl _ _) (.cells #[.int .i64 s.ed.pos, .string (B s.ed.del), .string (B s.ed.ins), .int .i64 s.ahead, .int .i64 s.behind] 89)))
                generalize Wc.heap.size = g7 at *
                generalize Wc.alloc (.cells #[.int .i64 s.ed.pos, .string (B s.ed.del), .string (B s.ed.ins), .int .i64 s.ahead, .int .i64 s.behind] 89) = Wc at *
                refine hK.out _ _ (fun _ => HX.out.y.loads) ?_
                clear hK K
                try simp only [Act.put, List.setIfInBounds_toArray, List.set_cons_zero, List.set_cons_succ]
                refine wpAnyK_ready (rs := [2]) (by kernel_rfl) (by simp) ?_
                refine AllReadyK.cons (i := 2) rfl (fun K hK => ?_) ?_
                · have hbz := HX.out.b.size
                  (refine step_append_src _ rfl (.tmp 110) (.tmp 111) _ rfl w2.heap.size 89 i5 _ 5 56 Try.underlying87 hi5 hz50 hz51 hz52 rfl (by decide) _ 0 [] rfl HO.out _ dl.length (dl.flatMap Stp.cells) rfl (by rw [stp_flat]) (HX.out.x.src stp_len) stp_one (by unfold maxLen; omega) (by omega) (by first | (simp; done) | omega | (simp; omega)) ?_; intro v3 w3 hown3 hg3 hat3 hty3; have HTY3 := Lib.hid hty3; clear hty3)
                  have HX := Lib.hid (HX.out.app hg3)
                  try have H7 := Lib.hid (H7.out.keeps hg3 (fun hf => hne (Option.some.inj hf.1).symm))
                  have HO := Lib.hid hown3
                  clear hown3 hg3 hat3 hbz
                  obtain ⟨Wc, rfl⟩ : ∃ W, W = w3 := ⟨_, rfl⟩
                  refine hK.out _ _ (fun _ => HX.out.y.loads) ?_
                  clear hK K
                  try simp only [Act.put, List.setIfInBounds_toArray, List.set_cons_zero, List.set_cons_succ]
                  refine wpAnyK_ready (rs := [5]) (by kernel_rfl) (by simp) ?_
                  refine AllReadyK.cons (i := 5) rfl (fun K hK => ?_) ?_
                  · have hbz := HX.out.b.size
                    (refine step_append_src _ rfl (.tmp 112) (.tmp 114) _ rfl w2.heap.size 89 i5 _ 5 56 Try.underlying87 hi5 hz50 hz51 hz52 rfl (by decide) _ (0 + dl.length) ([] ++ dl.flatMap Stp.cells) rfl HO.out _ 1 (Stp.cells s) rfl rfl H7.out.src (by simp [Stp.cells, Value.oneCell']) (by unfold maxLen; omega) (by omega) (by first | (simp; done) | omega | (simp; omega)) ?_; intro v8 w8 hown8 hg8 hat8 hty8; have HTY8 := Lib.hid hty8; clear hty8)
                    have HX8 := Lib.hid (HX.out.app hg8)
                    obtain ⟨g8, o8, c8, rfl, q1, q2, hsl, hg8x, hbl⟩ := HX.out.done hown8 hg8
                    have HSL := Lib.hid hsl
                    have HBL := Lib.hid hbl
                    clear hown8 hg8 hat8 hsl hbl HX hbz
                    have HX := HX8
                    refine hK.out _ _ (fun _ => HX.out.y.loads) ?_
                    clear hK K
                    try simp only [Act.put, List.setIfInBounds_toArray, List.set_cons_zero, List.set_cons_succ]
                    refine wpAnyK_take2 (i := 6) (some 6) (v := ?v6_4k2a) rfl rfl (by kernel_rfl) (by kernel_rfl) (by kernel_rfl) (by kernel_rfl) (fun _ _ _ h => h) (Or.inl ⟨by rfl, ?y6_4k2a⟩) (fun _ => HX.out.y.loads) ?r6_4k2a
                    case y6_4k2a =>
                      intro w hSw
                      go_simp
                      try with_reducible rfl
                    try simp only [Act.put, List.setIfInBounds_toArray, List.set_cons_zero, List.set_cons_succ]
                    refine wpAnyK_done (by kernel_rfl) ?_ _
                    clear HX HO H7
                    by_cases hfm : dl.length + 1 ≤ mo
                    · have hd1 := no (show ¬ (mo : Int) < (dl.length : Int) + 1 by omega)
                      have hd2 := no (show ¬ mo < dl.length + 1 by omega)
                      have HF := Lib.hid (HM.out.few HBL.out HSL.out (fun i e => (Option.some.inj e).symm) hg8x hfm)
                      clear hfm
                      go_wp2_with fail
                      go_meet
                      exact ⟨_, _, _, HF.out⟩
                    · have hd1 : (mo : Int) < (dl.length : Int) + 1 := by omega
                      have hd2 : mo < dl.length + 1 := by omega
                      have hd3 : (1 : Int) ≤ (dl.length : Int) + 1 := by omega
                      obtain ⟨r, hr⟩ := HM.out.full1 HBL.out HSL.out hg8x hfm hm1 q1
                      have HF := Lib.hid hr
                      clear hfm hr
                      go_wp2_with fail
                      go_meet
                      exact ⟨_, _, _, HF.out⟩
                  exact AllReadyK.nil
                exact AllReadyK.nil
              exact AllReadyK.nil
            refine AllReadyK.cons (i := 4) rfl (fun K hK => ?_) ?_
            · refine step_build1 (.tmp 113) _ _ rfl rfl rfl (build_stp _ s) ?_
              have HX := Lib.hid (HX.out.below (below_alloc (Below.refl _ _) (.cells #[.int .i64 s.ed.pos, .string (B s.ed.del), .string (B s.ed.ins), .int .i64 s.ahead, .int .i64 s.behind] 89)))
              have H7 := Lib.hid (StpBox.new Wc s 89)
              try have hne : Wc.heap.size ≠ g0 := by have := HO.out.lt g0 rfl; omega
              try have HO := Lib.hid (HO.out.below (below_alloc (Below.refl _ _) (.cells #[.int .i64 s.ed.pos, .string (B s.ed.del), .string (B s.ed.ins), .int .i64 s.ahead, .int .i64 s.behind] 89)))
              generalize Wc.heap.size = g7 at *
              generalize Wc.alloc (.cells #[.int .i64 s.ed.pos, .string (B s.ed.del), .string (B s.ed.ins), .int .i64 s.ahead, .int .i64 s.behind] 89) = Wc at *
              refine hK.out _ _ (fun _ => HX.out.y.loads) ?_
              clear hK K
              try simp only [Act.put, List.setIfInBounds_toArray, List.set_cons_zero, List.set_cons_succ]
              refine wpAnyK_ready (rs := [0]) (by kernel_rfl) (by simp) ?_
              refine AllReadyK.cons (i := 0) rfl (fun K hK => ?_) ?_
              · refine step_build0 _ rfl rfl (build_stp0 _) ?_
                have HX := Lib.hid (HX.out.below (below_alloc (Below.refl _ _) (.cells #[] 89)))
                have HO : Hid (Own (Wc.alloc (.cells #[] 89)) w2.heap.size 5 (.slice (some ⟨Wc.heap.size, 0, none⟩) 0 0) 0 []) := Own.none_ _ _ _ _ _ (by simp)
                try have hne : g7 ≠ Wc.heap.size := by have := H7.out.lt; omega
                try have H7 := Lib.hid (H7.out.below (below_alloc (Below.refl _ _) (.cells #[] 89)))
                generalize Wc.heap.size = g0 at *
                generalize Wc.alloc (.cells #[] 89) = Wc at *
                refine hK.out _ _ (fun _ => HX.out.y.loads) ?_
                clear hK K
                try simp only [Act.put, List.setIfInBounds_toArray, List.set_cons_zero, List.set_cons_succ]
                refine wpAnyK_ready (rs := [2]) (by kernel_rfl) (by simp) ?_
                refine AllReadyK.cons (i := 2) rfl (fun K hK => ?_) ?_
                · have hbz := HX.out.b.size
                  (refine step_append_src _ rfl (.tmp 110) (.tmp 111) _ rfl w2.heap.size 89 i5 _ 5 56 Try.underlying87 hi5 hz50 hz51 hz52 rfl (by decide) _ 0 [] rfl HO.out _ dl.length (dl.flatMap Stp.cells) rfl (by rw [stp_flat]) (HX.out.x.src stp_len) stp_one (by unfold maxLen; omega) (by omega) (by first | (simp; done) | omega | (simp; omega)) ?_; intro v3 w3 hown3 hg3 hat3 hty3; have HTY3 := Lib.hid hty3; clear hty3)
                  have HX := Lib.hid (HX.out.app hg3)
                  try have H7 := Lib.hid (H7.out.keeps hg3 (fun hf => hne (Option.some.inj hf.1).symm))
                  have HO := Lib.hid hown3
                  clear hown3 hg3 hat3 hbz
                  obtain ⟨Wc, rfl⟩ : ∃ W, W = w3 := ⟨_, rfl⟩
                  refine hK.out _ _ (fun _ => HX.out.y.loads) ?_
                  clear hK K
                  try simp only [Act.put, List.setIfInBounds_toArray, List.set_cons_zero, List.set_cons_succ]
                  refine wpAnyK_ready (rs := [5]) (by kernel_rfl) (by simp) ?_
                  refine AllReadyK.cons (i := 5) rfl (fun K hK => ?_) ?_
                  · have hbz := HX.out.b.size
                    (refine step_append_src _ rfl (.tmp 112) (.tmp 114) _ rfl w2.heap.size 89 i5 _ 5 56 Try.underlying87 hi5 hz50 hz51 hz52 rfl (by decide) _ (0 + dl.length) ([] ++ dl.flatMap Stp.cells) rfl HO.out _ 1 (Stp.cells s) rfl rfl H7.out.src (by simp [Stp.cells, Value.oneCell']) (by unfold maxLen; omega) (by omega) (by first | (simp; done) | omega | (simp; omega)) ?_; intro v8 w8 hown8 hg8 hat8 hty8; have HTY8 := Lib.hid hty8; clear hty8)
                    have HX8 := Lib.hid (HX.out.app hg8)
                    obtain ⟨g8, o8, c8, rfl, q1, q2, hsl, hg8x, hbl⟩ := HX.out.done hown8 hg8
                    have HSL := Lib.hid hsl
                    have HBL := Lib.hid hbl
                    clear hown8 hg8 hat8 hsl hbl HX hbz
                    have HX := HX8
                    refine hK.out _ _ (fun _ => HX.out.y.loads) ?_
                    clear hK K
                    try simp only [Act.put, List.setIfInBounds_toArray, List.set_cons_zero, List.set_cons_succ]
                    refine wpAnyK_take2 (i := 6) (some 6) (v := ?v6_5k2a) rfl rfl (by kernel_rfl) (by kernel_rfl) (by kernel_rfl) (by kernel_rfl) (fun _ _ _ h => h) (Or.inl ⟨by rfl, ?y6_5k2a⟩) (fun _ => HX.out.y.loads) ?r6_5k2a
                    case y6_5k2a =>
                      intro w hSw
                      go_simp
                      try with_reducible rfl
                    try simp only [Act.put, List.setIfInBounds_toArray, List.set_cons_zero, List.set_cons_succ]
                    refine wpAnyK_done (by kernel_rfl) ?_ _
                    clear HX HO H7
                    by_cases hfm : dl.length + 1 ≤ mo
                    · have hd1 := no (show ¬ (mo : Int) < (dl.length : Int) + 1 by omega)
                      have hd2 := no (show ¬ mo < dl.length + 1 by omega)
                      have HF := Lib.hid (HM.out.few HBL.out HSL.out (fun i e => (Option.some.inj e).symm) hg8x hfm)
                      clear hfm
                      go_wp2_with fail
                      go_meet
                      exact ⟨_, _, _, HF.out⟩
                    · have hd1 : (mo : Int) < (dl.length : Int) + 1 := by omega
                      have hd2 : mo < dl.length + 1 := by omega
                      have hd3 : (1 : Int) ≤ (dl.length : Int) + 1 := by omega
                      obtain ⟨r, hr⟩ := HM.out.full1 HBL.out HSL.out hg8x hfm hm1 q1
                      have HF := Lib.hid hr
                      clear hfm hr
                      go_wp2_with fail
                      go_meet
                      exact ⟨_, _, _, HF.out⟩
                  exact AllReadyK.nil
                exact AllReadyK.nil
              exact AllReadyK.nil
            exact AllReadyK.nil
        · as_aux_lemma =>
            replace hdl : dl = l1 ++ [x] := by simpa using hdl
            have HDL := Lib.hid hdl
            have HQ := Lib.hid (show dl.length = l1.length + 1 by rw [hdl]; simp)
            have htx := HI0.out.tl x (by rw [hdl]; simp)
            obtain ⟨z, ok, hz⟩ := joinS_ex x s
            obtain ⟨hv1, hv2, hv3⟩ := joinS_parts hz
            have HV := Lib.hid (And.intro hv2 hv3)
            have HJF := Lib.hid fun w => join_full x.ed s.ed w (by omega) (by omega) (by omega) (by omega)
            rw [hv1] at HJF
            unfold Ed.val at HJF
            have HTN : Hid (∀ y ∈ dl ++ [s], y.ed.del.length ≤ 100 * (k + 1) ∧ y.ed.ins.length ≤ 100 * (k + 1)) := fun y hy => by
              rcases List.mem_append.1 hy with hy | hy
              · have := HI0.out.tl y (List.mem_append_left _ hy); omega
              · simp at hy; subst hy; omega
            have HTZ : Hid (ok = true → ∀ y ∈ l1 ++ [z], y.ed.del.length ≤ 100 * (k + 1) ∧ y.ed.ins.length ≤ 100 * (k + 1)) := fun e y hy => by
              rcases List.mem_append.1 hy with hy | hy
              · have := HI0.out.tl y (List.mem_append_left _ (by rw [HDL.out]; exact List.mem_append_left _ hy)); omega
              · simp at hy; subst hy
                rcases hz with ⟨hz, _⟩ | ⟨_, _, e2⟩
                · have := joinS_len hz; omega
                · rw [e] at e2; cases e2
            have HPU := Lib.hid fun W h => push_j W w.heap.size jb lv mo (dl ++ ul) dl.length l1.length l1 x s z ok h HQ.out (by rw [List.take_left' rfl]; exact HDL.out) rfl (by simp; omega) hm1 (by omega) (by omega) (by omega) (by omega) (by omega) hz
            unfold Stp.val at HPU
            obtain ⟨ga, oa, rfl⟩ : ∃ ga oa, Ad = some ⟨ga, oa, none⟩ := by
              have hd := HI0.out.d
              rw [HDL.out] at hd
              obtain ⟨ga, oa, e, -⟩ := sl_init5 hd
              exact ⟨ga, oa, e⟩
            have hwq : IntKind.i64.wrap ((dl.length : Int) - 1) = (l1.length : Int) := by have := HQ.out; rw [IntWalk.i64_in _ (by omega)]; omega
            have hq0 : (0 : Int) ≤ (l1.length : Int) := by omega
            have hq1 : (l1.length : Int) < (dl.length : Int) := by have := HQ.out; omega
            have hq2 : l1.length ≤ dl.length := by have := HQ.out; omega
            have hcd : l1.length ≤ cd := by omega
            have HLK : Hid (dl.length ≤ k ∧ dl.length ≤ mo) := ⟨by omega, by omega⟩
            have hz1 := yes (show 0 < dl.length by have := HQ.out; omega)
            have hz2 := yes (show (0 : Int) < (dl.length : Int) by have := HQ.out; omega)
            clear hz hv1 hv2 hv3 htx hdl
            go_wp2_with fail
            (refine wp_region_grow_tail 8 (by kernel_rfl) (by kernel_rfl) ?_; simp only [List.take_succ_cons, List.take_zero, List.drop_succ_cons, List.drop_zero]; (repeat (go_big_quiet_step (fail))); refine wpQuiet_nil ?_; intro _ hw'; obtain ⟨gq, hw''⟩ := hw'; subst hw'')
            go_wp2_with (go_at_call 52; refine (HPU.out _ (HI0.out.j.below (grow_below W0 gq))).mono ?_; rintro e w2 hpj; obtain ⟨rfl, lv2, hjy, hjn, hk2⟩ := pushJ_parts hpj; have HN := Lib.hid ((HI0.out.below (grow_below W0 gq)).jn (HY0.out.below (grow_below W0 gq)) hsb1 HSB2.out HSD.out hsge hjy hjn hk2); have f0 := HC.out w2 HN.out.bl; haveI : Old w2 b := ⟨Nat.lt_of_lt_of_le hb HN.out.bl.size⟩; clear hpj hjy hjn hk2)
            go_wp2_with fail
            go_cut [11, 12] (fun s11 s12 wx => ∃ eb : Nat, s11 = .pointer (some ⟨eb, 0, none⟩) ∧ s12 = .bool ok ∧ Hid (JnI w wx jb sb lv2 (.slice (some ⟨ga, oa, none⟩) dl.length cd) mo dl l1 s z ok) ∧ Hid (EdBox wx eb z.ed))
            case first =>
              haveI : Old w2 sb := ⟨HN.out.b.lt⟩
              haveI : Old w2 ga := ⟨(HN.out.dx ga rfl).1⟩
              refine wp_region_keyed (fun W => (W.cell? ⟨ga, oa + l1.length * 5, none⟩ = some (.int .i64 x.ed.pos) ∧ W.cell? ⟨ga, oa + l1.length * 5 + 1, none⟩ = some (.string (B x.ed.del)) ∧ W.cell? ⟨ga, oa + l1.length * 5 + 2, none⟩ = some (.string (B x.ed.ins))) ∧ (W.cell? ⟨sb, 0, none⟩ = some (.int .i64 s.ed.pos) ∧ W.cell? ⟨sb, 1, none⟩ = some (.string (B s.ed.del)) ∧ W.cell? ⟨sb, 2, none⟩ = some (.string (B s.ed.ins)))) [13] (by kernel_rfl) ?_
              have HN := Lib.hid (HN.out.below (below_drew (Below.refl _ _)))
              generalize w2.drew = D at *
              refine wpAnyK_take2 (i := 0) (some 84) (v := ?v0_1k2x) rfl rfl (by kernel_rfl) (by kernel_rfl) (by kernel_rfl) (by kernel_rfl) (fun _ _ _ h => h) (Or.inl ⟨by rfl, ?y0_1k2x⟩) (fun _ => HN.out.loads HDL.out) ?r0_1k2x
              case y0_1k2x =>
                intro w hSw
                go_simp
                try with_reducible rfl
              try simp only [Act.put, List.setIfInBounds_toArray, List.set_cons_zero, List.set_cons_succ]
              refine wpAnyK_take2 (i := 1) (some 85) (v := ?v1_2k2x) rfl rfl (by kernel_rfl) (by kernel_rfl) (by kernel_rfl) (by kernel_rfl) (fun _ _ _ h => h) (Or.inl ⟨by rfl, ?y1_2k2x⟩) (fun _ => HN.out.loads HDL.out) ?r1_2k2x
              case y1_2k2x =>
                intro w hSw
                go_simp
                try with_reducible rfl
              try simp only [Act.put, List.setIfInBounds_toArray, List.set_cons_zero, List.set_cons_succ]
              refine wpAnyK_take2 (i := 2) (some 86) (v := ?v2_3k2x) rfl rfl (by kernel_rfl) (by kernel_rfl) (by kernel_rfl) (by kernel_rfl) (fun _ _ _ h => h) (Or.inl ⟨by rfl, ?y2_3k2x⟩) (fun _ => HN.out.loads HDL.out) ?r2_3k2x
              case y2_3k2x =>
                intro w hSw
                go_simp
                try with_reducible rfl
              try simp only [Act.put, List.setIfInBounds_toArray, List.set_cons_zero, List.set_cons_succ]
              refine wpAnyK_take2 (i := 3) (some 87) (v := ?v3_4k2x) rfl rfl (by kernel_rfl) (by kernel_rfl) (by kernel_rfl) (by kernel_rfl) (fun _ _ _ h => h) (Or.inl ⟨by rfl, ?y3_4k2x⟩) (fun _ => HN.out.loads HDL.out) ?r3_4k2x
              case y3_4k2x =>
                intro w hSw
                go_simp
                try with_reducible rfl
              try simp only [Act.put, List.setIfInBounds_toArray, List.set_cons_zero, List.set_cons_succ]
              refine wpAnyK_take2 (i := 4) (some 88) (v := ?v4_5k2x) rfl rfl (by kernel_rfl) (by kernel_rfl) (by kernel_rfl) (by kernel_rfl) (fun _ _ _ h => h) (Or.inl ⟨by rfl, ?y4_5k2x⟩) (fun _ => HN.out.loads HDL.out) ?r4_5k2x
              case y4_5k2x =>
                intro w hSw
                go_simp
                try with_reducible rfl
              try simp only [Act.put, List.setIfInBounds_toArray, List.set_cons_zero, List.set_cons_succ]
              refine wpAnyK_load2 (i := 5) [8, 9, 10, 11, 13, 14] (some 89) (v := ?v5_6k2x) rfl rfl (by kernel_rfl) (by kernel_rfl) (by kernel_rfl) (by kernel_rfl) (by kernel_rfl) (fun _ _ _ h => h) (Or.inl ⟨by rfl, ?y5_6k2x⟩) (fun _ => HN.out.loads HDL.out) ?r5_6k2x
              case y5_6k2x =>
                intro w hSw
                (try dsimp only at hSw)
                go_split_ands
                go_simp
                try with_reducible rfl
              try simp only [Act.put, List.setIfInBounds_toArray, List.set_cons_zero, List.set_cons_succ]
              refine wpAnyK_take2 (i := 6) (some 90) (v := ?v6_7k2x) rfl rfl (by kernel_rfl) (by kernel_rfl) (by kernel_rfl) (by kernel_rfl) (fun _ _ _ h => h) (Or.inl ⟨by rfl, ?y6_7k2x⟩) (fun _ => HN.out.loads HDL.out) ?r6_7k2x
              case y6_7k2x =>
                intro w hSw
                go_simp
                try with_reducible rfl
              try simp only [Act.put, List.setIfInBounds_toArray, List.set_cons_zero, List.set_cons_succ]
              refine wpAnyK_load2 (i := 7) [8, 9, 10, 11, 13, 14] (some 91) (v := ?v7_8k2x) rfl rfl (by kernel_rfl) (by kernel_rfl) (by kernel_rfl) (by kernel_rfl) (by kernel_rfl) (fun _ _ _ h => h) (Or.inl ⟨by rfl, ?y7_8k2x⟩) (fun _ => HN.out.loads HDL.out) ?r7_8k2x
              case y7_8k2x =>
                intro w hSw
                (try dsimp only at hSw)
                go_split_ands
                go_simp
                try with_reducible rfl
              try simp only [Act.put, List.setIfInBounds_toArray, List.set_cons_zero, List.set_cons_succ]
              refine wpAnyK_ready (rs := [8, 12]) (by kernel_rfl) (by simp) ?_
              refine AllReadyK.cons (i := 8) rfl (fun K hK => ?_) ?_
              · go_simp
                go_at_call 53
                refine (HJF.out D).mono ?_
                rintro e w8 ⟨rfl, hb8⟩
                have HN := Lib.hid (HN.out.below hb8)
                try have HX := Lib.hid (HX.out.below hb8)
                clear hb8
                obtain ⟨D, rfl⟩ : ∃ W, W = w8 := ⟨_, rfl⟩
                dsimp only
                refine hK.out _ _ (fun _ => HN.out.loads HDL.out) ?_
                clear hK K
                try simp only [Act.put, List.setIfInBounds_toArray, List.set_cons_zero, List.set_cons_succ]
                refine wpAnyK_take2 (i := 9) (some 83) (v := ?v9_9k2x) rfl rfl (by kernel_rfl) (by kernel_rfl) (by kernel_rfl) (by kernel_rfl) (fun _ _ _ h => h) (Or.inl ⟨by rfl, ?y9_9k2x⟩) (fun _ => HN.out.loads HDL.out) ?r9_9k2x
                case y9_9k2x =>
                  intro w hSw
                  go_simp
                  try with_reducible rfl
                try simp only [Act.put, List.setIfInBounds_toArray, List.set_cons_zero, List.set_cons_succ]
                refine wpAnyK_take2 (i := 10) (some 93) (v := ?v10_10k2x) rfl rfl (by kernel_rfl) (by kernel_rfl) (by kernel_rfl) (by kernel_rfl) (fun _ _ _ h => h) (Or.inl ⟨by rfl, ?y10_10k2x⟩) (fun _ => HN.out.loads HDL.out) ?r10_10k2x
                case y10_10k2x =>
                  intro w hSw
                  go_simp
                  try with_reducible rfl
                try simp only [Act.put, List.setIfInBounds_toArray, List.set_cons_zero, List.set_cons_succ]
                refine wpAnyK_take2 (i := 11) (some 94) (v := ?v11_11k2x) rfl rfl (by kernel_rfl) (by kernel_rfl) (by kernel_rfl) (by kernel_rfl) (fun _ _ _ h => h) (Or.inl ⟨by rfl, ?y11_11k2x⟩) (fun _ => HN.out.loads HDL.out) ?r11_11k2x
                case y11_11k2x =>
                  intro w hSw
                  go_simp
                  try with_reducible rfl
                try simp only [Act.put, List.setIfInBounds_toArray, List.set_cons_zero, List.set_cons_succ]
                refine wpAnyK_ready (rs := [12]) (by kernel_rfl) (by simp) ?_
                refine AllReadyK.cons (i := 12) rfl (fun K hK => ?_) ?_
                · go_simp
                  have HFR := Lib.hid HN.out.fresh
                  have HN := Lib.hid (HN.out.below (below_alloc (Below.refl _ _) (.cells #[.int .i64 0, .string (B []), .string (B [])] 78)))
                  have HX := Lib.hid (EdBox.new D 78)
                  generalize D.heap.size = eb at *
                  generalize D.alloc (.cells #[.int .i64 0, .string (B []), .string (B [])] 78) = D at *
                  refine hK.out _ _ (fun _ => HN.out.loads HDL.out) ?_
                  clear hK K
                  try simp only [Act.put, List.setIfInBounds_toArray, List.set_cons_zero, List.set_cons_succ]
                  refine wpAnyK_ready (rs := [13]) (by kernel_rfl) (by simp) ?_
                  refine AllReadyK.cons (i := 13) rfl (fun K hK => ?_) ?_
                  · haveI : Old D eb := ⟨HX.out.lt⟩
                    have x0 := HX.out.c0
                    have x1 := HX.out.c1
                    have x2 := HX.out.c2
                    have xf := HX.out.f
                    go_simp
                    have HN := Lib.hid (HN.out.keeps (keeps3 D eb (.int .i64 z.ed.pos) (.string (B z.ed.del)) (.string (B z.ed.ins))) HFR.out)
                    have HX := Lib.hid (HX.out.set3 z.ed)
                    refine hK.out _ _ (fun h => Bool.noConfusion ((show unl _ _ = false by kernel_rfl).symm.trans h)) ?_
                    clear hK K
                    try simp only [Act.put, List.setIfInBounds_toArray, List.set_cons_zero, List.set_cons_succ]
                    refine wpAnyK_take2 (i := 14) (some 12) (v := ?v14_12k2x) rfl rfl (by kernel_rfl) (by kernel_rfl) (by kernel_rfl) (by kernel_rfl) (fun _ _ _ h => h) (Or.inl ⟨by rfl, ?y14_12k2x⟩) (fun h => Bool.noConfusion ((show unl _ _ = false by kernel_rfl).symm.trans h)) ?r14_12k2x
                    case y14_12k2x =>
                      intro w hSw
                      go_simp
                      try with_reducible rfl
                    try simp only [Act.put, List.setIfInBounds_toArray, List.set_cons_zero, List.set_cons_succ]
                    refine wpAnyK_done (by kernel_rfl) ?_ _
                    go_wp2
                    go_meet
                    exact ⟨eb, rfl, rfl, HN.out, HX.out⟩
                  exact AllReadyK.nil
                exact AllReadyK.nil
              refine AllReadyK.cons (i := 12) rfl (fun K hK => ?_) ?_
              · go_simp
                have HFR := Lib.hid HN.out.fresh
                have HN := Lib.hid (HN.out.below (below_alloc (Below.refl _ _) (.cells #[.int .i64 0, .string (B []), .string (B [])] 78)))
                have HX := Lib.hid (EdBox.new D 78)
                generalize D.heap.size = eb at *
                generalize D.alloc (.cells #[.int .i64 0, .string (B []), .string (B [])] 78) = D at *
                refine hK.out _ _ (fun _ => HN.out.loads HDL.out) ?_
                clear hK K
                try simp only [Act.put, List.setIfInBounds_toArray, List.set_cons_zero, List.set_cons_succ]
                refine wpAnyK_ready (rs := [8]) (by kernel_rfl) (by simp) ?_
                refine AllReadyK.cons (i := 8) rfl (fun K hK => ?_) ?_
                · go_simp
                  go_at_call 53
                  refine (HJF.out D).mono ?_
                  rintro e w8 ⟨rfl, hb8⟩
                  have HN := Lib.hid (HN.out.below hb8)
                  try have HX := Lib.hid (HX.out.below hb8)
                  clear hb8
                  obtain ⟨D, rfl⟩ : ∃ W, W = w8 := ⟨_, rfl⟩
                  dsimp only
                  refine hK.out _ _ (fun _ => HN.out.loads HDL.out) ?_
                  clear hK K
                  try simp only [Act.put, List.setIfInBounds_toArray, List.set_cons_zero, List.set_cons_succ]
                  refine wpAnyK_take2 (i := 9) (some 83) (v := ?v9_13k2x) rfl rfl (by kernel_rfl) (by kernel_rfl) (by kernel_rfl) (by kernel_rfl) (fun _ _ _ h => h) (Or.inl ⟨by rfl, ?y9_13k2x⟩) (fun _ => HN.out.loads HDL.out) ?r9_13k2x
                  case y9_13k2x =>
                    intro w hSw
                    go_simp
                    try with_reducible rfl
                  try simp only [Act.put, List.setIfInBounds_toArray, List.set_cons_zero, List.set_cons_succ]
                  refine wpAnyK_take2 (i := 10) (some 93) (v := ?v10_14k2x) rfl rfl (by kernel_rfl) (by kernel_rfl) (by kernel_rfl) (by kernel_rfl) (fun _ _ _ h => h) (Or.inl ⟨by rfl, ?y10_14k2x⟩) (fun _ => HN.out.loads HDL.out) ?r10_14k2x
                  case y10_14k2x =>
                    intro w hSw
                    go_simp
                    try with_reducible rfl
                  try simp only [Act.put, List.setIfInBounds_toArray, List.set_cons_zero, List.set_cons_succ]
                  refine wpAnyK_take2 (i := 11) (some 94) (v := ?v11_15k2x) rfl rfl (by kernel_rfl) (by kernel_rfl) (by kernel_rfl) (by kernel_rfl) (fun _ _ _ h => h) (Or.inl ⟨by rfl, ?y11_15k2x⟩) (fun _ => HN.out.loads HDL.out) ?r11_15k2x
                  case y11_15k2x =>
                    intro w hSw
                    go_simp
                    try with_reducible rfl
                  try simp only [Act.put, List.setIfInBounds_toArray, List.set_cons_zero, List.set_cons_succ]
                  refine wpAnyK_ready (rs := [13]) (by kernel_rfl) (by simp) ?_
                  refine AllReadyK.cons (i := 13) rfl (fun K hK => ?_) ?_
                  · haveI : Old D eb := ⟨HX.out.lt⟩
                    have x0 := HX.out.c0
                    have x1 := HX.out.c1
                    have x2 := HX.out.c2
                    have xf := HX.out.f
                    go_simp
                    have HN := Lib.hid (HN.out.keeps (keeps3 D eb (.int .i64 z.ed.pos) (.string (B z.ed.del)) (.string (B z.ed.ins))) HFR.out)
                    have HX := Lib.hid (HX.out.set3 z.ed)
                    refine hK.out _ _ (fun h => Bool.noConfusion ((show unl _ _ = false by kernel_rfl).symm.trans h)) ?_
                    clear hK K
                    try simp only [Act.put, List.setIfInBounds_toArray, List.set_cons_zero, List.set_cons_succ]
                    refine wpAnyK_take2 (i := 14) (some 12) (v := ?v14_16k2x) rfl rfl (by kernel_rfl) (by kernel_rfl) (by kernel_rfl) (by kernel_rfl) (fun _ _ _ h => h) (Or.inl ⟨by rfl, ?y14_16k2x⟩) (fun h => Bool.noConfusion ((show unl _ _ = false by kernel_rfl).symm.trans h)) ?r14_16k2x
                    case y14_16k2x =>
                      intro w hSw
                      go_simp
                      try with_reducible rfl
                    try simp only [Act.put, List.setIfInBounds_toArray, List.set_cons_zero, List.set_cons_succ]
                    refine wpAnyK_done (by kernel_rfl) ?_ _
                    go_wp2
                    go_meet
                    exact ⟨eb, rfl, rfl, HN.out, HX.out⟩
                  exact AllReadyK.nil
                exact AllReadyK.nil
              exact AllReadyK.nil
            case rest =>
              obtain ⟨eb, rfl, rfl, HN, HX⟩ := hcut
              have f0 := HC.out wc HN.out.bl
              haveI : Old wc b := ⟨Nat.lt_of_lt_of_le hb HN.out.bl.size⟩
              cases ok with
              | false =>
                have HM := Lib.hid (HN.out.no_ HLK.out.1 HLK.out.2 HTN.out)
                go_wp2
                refine wp_region_keyed (fun W => W.cell? ⟨sb, 0, none⟩ = some (.int .i64 s.ed.pos) ∧ W.cell? ⟨sb, 1, none⟩ = some (.string (B s.ed.del)) ∧ W.cell? ⟨sb, 2, none⟩ = some (.string (B s.ed.ins)) ∧ W.cell? ⟨sb, 3, none⟩ = some (.int .i64 s.ahead) ∧ W.cell? ⟨sb, 4, none⟩ = some (.int .i64 s.behind)) [] (by kernel_rfl) ?_
                have HX := Lib.hid (HM.out.rs rfl)
                generalize wc.drew = Wc at *
                refine wpAnyK_take2 (i := 1) (some 111) (v := ?v1_1k2b) rfl rfl (by kernel_rfl) (by kernel_rfl) (by kernel_rfl) (by kernel_rfl) (fun _ _ _ h => h) (Or.inl ⟨by rfl, ?y1_1k2b⟩) (fun _ => HX.out.y.loads) ?r1_1k2b
                case y1_1k2b =>
                  intro w hSw
                  go_simp
                  try with_reducible rfl
                try simp only [Act.put, List.setIfInBounds_toArray, List.set_cons_zero, List.set_cons_succ]
                refine wpAnyK_load2 (i := 3) [4, 5, 6] (some 113) (v := ?v3_2k2b) rfl rfl (by kernel_rfl) (by kernel_rfl) (by kernel_rfl) (by kernel_rfl) (by kernel_rfl) (fun _ _ _ h => h) (Or.inl ⟨by rfl, ?y3_2k2b⟩) (fun _ => HX.out.y.loads) ?r3_2k2b
                case y3_2k2b =>
                  intro w hSw
                  (try dsimp only at hSw)
                  go_split_ands
                  go_simp
                  try with_reducible rfl
                try simp only [Act.put, List.setIfInBounds_toArray, List.set_cons_zero, List.set_cons_succ]
                refine wpAnyK_ready (rs := [0, 4]) (by kernel_rfl) (by simp) ?_
                refine AllReadyK.cons (i := 0) rfl (fun K hK => ?_) ?_
                · refine step_build0 _ rfl rfl (build_stp0 _) ?_
                  have HX := Lib.hid (HX.out.below (below_alloc (Below.refl _ _) (.cells #[] 89)))
                  have HO : Hid (Own (Wc.alloc (.cells #[] 89)) wc.heap.size 5 (.slice (some ⟨Wc.heap.size, 0, none⟩) 0 0) 0 []) := Own.none_ _ _ _ _ _ (by simp)
                  try have hne : g7 ≠ Wc.heap.size := by have := H7.out.lt; omega
                  try have H7 := Lib.hid (H7.out.below (below_alloc (Below.refl _ _) (.cells #[] 89)))
                  generalize Wc.heap.size = g0 at *
                  generalize Wc.alloc (.cells #[] 89) = Wc at *
                  refine hK.out _ _ (fun _ => HX.out.y.loads) ?_
                  clear hK K
                  try simp only [Act.put, List.setIfInBounds_toArray, List.set_cons_zero, List.set_cons_succ]
                  refine wpAnyK_ready (rs := [2, 4]) (by kernel_rfl) (by simp) ?_
                  refine AllReadyK.cons (i := 2) rfl (fun K hK => ?_) ?_
                  · have hbz := HX.out.b.size
                    (refine step_append_src _ rfl (.tmp 110) (.tmp 111) _ rfl wc.heap.size 89 i5 _ 5 56 Try.underlying87 hi5 hz50 hz51 hz52 rfl (by decide) _ 0 [] rfl HO.out _ dl.length (dl.flatMap Stp.cells) rfl (by rw [stp_flat]) (HX.out.x.src stp_len) stp_one (by unfold maxLen; omega) (by omega) (by first | (simp; done) | omega | (simp; omega)) ?_; intro v3 w3 hown3 hg3 hat3 hty3; have HTY3 := Lib.hid hty3; clear hty3)
                    have HX := Lib.hid (HX.out.app hg3)
                    try have H7 := Lib.hid (H7.out.keeps hg3 (fun hf => hne (Option.some.inj hf.1).symm))
                    have HO := Lib.hid hown3
                    clear hown3 hg3 hat3 hbz
                    obtain ⟨Wc, rfl⟩ : ∃ W, W = w3 := ⟨_, rfl⟩
                    refine hK.out _ _ (fun _ => HX.out.y.loads) ?_
                    clear hK K
                    try simp only [Act.put, List.setIfInBounds_toArray, List.set_cons_zero, List.set_cons_succ]
                    refine wpAnyK_ready (rs := [4]) (by kernel_rfl) (by simp) ?_
                    refine AllReadyK.cons (i := 4) rfl (fun K hK => ?_) ?_
                    · refine step_build1 (.tmp 113) _ _ rfl rfl rfl (build_stp _ s) ?_
                      have HX := Lib.hid (HX.out.below (below_alloc (Below.refl _ _) (.cells #[.int .i64 s.ed.pos, .string (B s.ed.del), .string (B s.ed.ins), .int .i64 s.ahead, .int .i64 s.behind] 89)))
                      have H7 := Lib.hid (StpBox.new Wc s 89)
                      try have hne : Wc.heap.size ≠ g0 := by have := HO.out.lt g0 rfl; omega
                      try have HO := Lib.hid (HO.out.below (below_alloc (Below.refl _ _) (.cells #[.int .i64 s.ed.pos, .string (B s.ed.del), .string (B s.ed.ins), .int .i64 s.ahead, .int .i64 s.behind] 89)))
                      generalize Wc.heap.size = g7 at *
                      generalize Wc.alloc (.cells #[.int .i64 s.ed.pos, .string (B s.ed.del), .string (B s.ed.ins), .int .i64 s.ahead, .int .i64 s.behind] 89) = Wc at *
                      refine hK.out _ _ (fun _ => HX.out.y.loads) ?_
                      clear hK K
                      try simp only [Act.put, List.setIfInBounds_toArray, List.set_cons_zero, List.set_cons_succ]
                      refine wpAnyK_ready (rs := [5]) (by kernel_rfl) (by simp) ?_
                      refine AllReadyK.cons (i := 5) rfl (fun K hK => ?_) ?_
                      · have hbz := HX.out.b.size
                        (refine step_append_src _ rfl (.tmp 112) (.tmp 114) _ rfl wc.heap.size 89 i5 _ 5 56 Try.underlying87 hi5 hz50 hz51 hz52 rfl (by decide) _ (0 + dl.length) ([] ++ dl.flatMap Stp.cells) rfl HO.out _ 1 (Stp.cells s) rfl rfl H7.out.src (by simp [Stp.cells, Value.oneCell']) (by unfold maxLen; omega) (by omega) (by first | (simp; done) | omega | (simp; omega)) ?_; intro v8 w8 hown8 hg8 hat8 hty8; have HTY8 := Lib.hid hty8; clear hty8)
                        have HX8 := Lib.hid (HX.out.app hg8)
                        obtain ⟨g8, o8, c8, rfl, q1, q2, hsl, hg8x, hbl⟩ := HX.out.done hown8 hg8
                        have HSL := Lib.hid hsl
                        have HBL := Lib.hid hbl
                        clear hown8 hg8 hat8 hsl hbl HX hbz
                        have HX := HX8
                        refine hK.out _ _ (fun _ => HX.out.y.loads) ?_
                        clear hK K
                        try simp only [Act.put, List.setIfInBounds_toArray, List.set_cons_zero, List.set_cons_succ]
                        refine wpAnyK_take2 (i := 6) (some 6) (v := ?v6_3k2b) rfl rfl (by kernel_rfl) (by kernel_rfl) (by kernel_rfl) (by kernel_rfl) (fun _ _ _ h => h) (Or.inl ⟨by rfl, ?y6_3k2b⟩) (fun _ => HX.out.y.loads) ?r6_3k2b
                        case y6_3k2b =>
                          intro w hSw
                          go_simp
                          try with_reducible rfl
                        try simp only [Act.put, List.setIfInBounds_toArray, List.set_cons_zero, List.set_cons_succ]
                        refine wpAnyK_done (by kernel_rfl) ?_ _
                        clear HX HO H7
                        by_cases hfm : dl.length + 1 ≤ mo
                        · have hd1 := no (show ¬ (mo : Int) < (dl.length : Int) + 1 by omega)
                          have hd2 := no (show ¬ mo < dl.length + 1 by omega)
                          have HF := Lib.hid (HM.out.few HBL.out HSL.out (fun i e => (Option.some.inj e).symm) hg8x hfm)
                          clear hfm
                          go_wp2_with fail
                          go_meet
                          exact ⟨_, _, _, HF.out⟩
                        · have hd1 : (mo : Int) < (dl.length : Int) + 1 := by omega
                          have hd2 : mo < dl.length + 1 := by omega
                          have hd3 : (1 : Int) ≤ (dl.length : Int) + 1 := by omega
                          obtain ⟨r, hr⟩ := HM.out.full1 HBL.out HSL.out hg8x hfm hm1 q1
                          have HF := Lib.hid hr
                          clear hfm hr
                          go_wp2_with fail
                          go_meet
                          exact ⟨_, _, _, HF.out⟩
                      exact AllReadyK.nil
                    exact AllReadyK.nil
                  refine AllReadyK.cons (i := 4) rfl (fun K hK => ?_) ?_
                  · refine step_build1 (.tmp 113) _ _ rfl rfl rfl (build_stp _ s) ?_
                    have HX := Lib.hid (HX.out.below (below_alloc (Below.refl _ _) (.cells #[.int .i64 s.ed.pos, .string (B s.ed.del), .string (B s.ed.ins), .int .i64 s.ahead, .int .i64 s.behind] 89)))
                    have H7 := Lib.hid (StpBox.new Wc s 89)
                    try have hne : Wc.heap.size ≠ g0 := by have := HO.out.lt g0 rfl; omega
                    try have HO := Lib.hid (HO.out.below (below_alloc (Below.refl _ _) (.cells #[.int .i64 s.ed.pos, .string (B s.ed.del), .string (B s.ed.ins), .int .i64 s.ahead, .int .i64 s.behind] 89)))
                    generalize Wc.heap.size = g7 at *
                    generalize Wc.alloc (.cells #[.int .i64 s.ed.pos, .string (B s.ed.del), .string (B s.ed.ins), .int .i64 s.ahead, .int .i64 s.behind] 89) = Wc at *
                    refine hK.out _ _ (fun _ => HX.out.y.loads) ?_
                    clear hK K
                    try simp only [Act.put, List.setIfInBounds_toArray, List.set_cons_zero, List.set_cons_succ]
                    refine wpAnyK_ready (rs := [2]) (by kernel_rfl) (by simp) ?_
                    refine AllReadyK.cons (i := 2) rfl (fun K hK => ?_) ?_
                    · have hbz := HX.out.b.size
                      (refine step_append_src _ rfl (.tmp 110) (.tmp 111) _ rfl wc.heap.size 89 i5 _ 5 56 Try.underlying87 hi5 hz50 hz51 hz52 rfl (by decide) _ 0 [] rfl HO.out _ dl.length (dl.flatMap Stp.cells) rfl (by rw [stp_flat]) (HX.out.x.src stp_len) stp_one (by unfold maxLen; omega) (by omega) (by first | (simp; done) | omega | (simp; omega)) ?_; intro v3 w3 hown3 hg3 hat3 hty3; have HTY3 := Lib.hid hty3; clear hty3)
                      have HX := Lib.hid (HX.out.app hg3)
                      try have H7 := Lib.hid (H7.out.keeps hg3 (fun hf => hne (Option.some.inj hf.1).symm))
                      have HO := Lib.hid hown3
                      clear hown3 hg3 hat3 hbz
                      obtain ⟨Wc, rfl⟩ : ∃ W, W = w3 := ⟨_, rfl⟩
                      refine hK.out _ _ (fun _ => HX.out.y.loads) ?_
                      clear hK K
                      try simp only [Act.put, List.setIfInBounds_toArray, List.set_cons_zero, List.set_cons_succ]
                      refine wpAnyK_ready (rs := [5]) (by kernel_rfl) (by simp) ?_
                      refine AllReadyK.cons (i := 5) rfl (fun K hK => ?_) ?_
                      · have hbz := HX.out.b.size
                        (refine step_append_src _ rfl (.tmp 112) (.tmp 114) _ rfl wc.heap.size 89 i5 _ 5 56 Try.underlying87 hi5 hz50 hz51 hz52 rfl (by decide) _ (0 + dl.length) ([] ++ dl.flatMap Stp.cells) rfl HO.out _ 1 (Stp.cells s) rfl rfl H7.out.src (by simp [Stp.cells, Value.oneCell']) (by unfold maxLen; omega) (by omega) (by first | (simp; done) | omega | (simp; omega)) ?_; intro v8 w8 hown8 hg8 hat8 hty8; have HTY8 := Lib.hid hty8; clear hty8)
                        have HX8 := Lib.hid (HX.out.app hg8)
                        obtain ⟨g8, o8, c8, rfl, q1, q2, hsl, hg8x, hbl⟩ := HX.out.done hown8 hg8
                        have HSL := Lib.hid hsl
                        have HBL := Lib.hid hbl
                        clear hown8 hg8 hat8 hsl hbl HX hbz
                        have HX := HX8
                        refine hK.out _ _ (fun _ => HX.out.y.loads) ?_
                        clear hK K
                        try simp only [Act.put, List.setIfInBounds_toArray, List.set_cons_zero, List.set_cons_succ]
                        refine wpAnyK_take2 (i := 6) (some 6) (v := ?v6_4k2b) rfl rfl (by kernel_rfl) (by kernel_rfl) (by kernel_rfl) (by kernel_rfl) (fun _ _ _ h => h) (Or.inl ⟨by rfl, ?y6_4k2b⟩) (fun _ => HX.out.y.loads) ?r6_4k2b
                        case y6_4k2b =>
                          intro w hSw
                          go_simp
                          try with_reducible rfl
                        try simp only [Act.put, List.setIfInBounds_toArray, List.set_cons_zero, List.set_cons_succ]
                        refine wpAnyK_done (by kernel_rfl) ?_ _
                        clear HX HO H7
                        by_cases hfm : dl.length + 1 ≤ mo
                        · have hd1 := no (show ¬ (mo : Int) < (dl.length : Int) + 1 by omega)
                          have hd2 := no (show ¬ mo < dl.length + 1 by omega)
                          have HF := Lib.hid (HM.out.few HBL.out HSL.out (fun i e => (Option.some.inj e).symm) hg8x hfm)
                          clear hfm
                          go_wp2_with fail
                          go_meet
                          exact ⟨_, _, _, HF.out⟩
                        · have hd1 : (mo : Int) < (dl.length : Int) + 1 := by omega
                          have hd2 : mo < dl.length + 1 := by omega
                          have hd3 : (1 : Int) ≤ (dl.length : Int) + 1 := by omega
                          obtain ⟨r, hr⟩ := HM.out.full1 HBL.out HSL.out hg8x hfm hm1 q1
                          have HF := Lib.hid hr
                          clear hfm hr
                          go_wp2_with fail
                          go_meet
                          exact ⟨_, _, _, HF.out⟩
                      exact AllReadyK.nil
                    exact AllReadyK.nil
                  exact AllReadyK.nil
                refine AllReadyK.cons (i := 4) rfl (fun K hK => ?_) ?_
                · refine step_build1 (.tmp 113) _ _ rfl rfl rfl (build_stp _ s) ?_
                  have HX := Lib.hid (HX.out.below (below_alloc (Below.refl _ _) (.cells #[.int .i64 s.ed.pos, .string (B s.ed.del), .string (B s.ed.ins), .int .i64 s.ahead, .int .i64 s.behind] 89)))
                  have H7 := Lib.hid (StpBox.new Wc s 89)
                  try have hne : Wc.heap.size ≠ g0 := by have := HO.out.lt g0 rfl; omega
                  try have HO := Lib.hid (HO.out.below (below_alloc (Below.refl _ _) (.cells #[.int .i64 s.ed.pos, .string (B s.ed.del), .string (B s.ed.ins), .int .i64 s.ahead, .int .i64 s.behind] 89)))
                  generalize Wc.heap.size = g7 at *
                  generalize Wc.alloc (.cells #[.int .i64 s.ed.pos, .string (B s.ed.del), .string (B s.ed.ins), .int .i64 s.ahead, .int .i64 s.behind] 89) = Wc at *
                  refine hK.out _ _ (fun _ => HX.out.y.loads) ?_
                  clear hK K
                  try simp only [Act.put, List.setIfInBounds_toArray, List.set_cons_zero, List.set_cons_succ]
                  refine wpAnyK_ready (rs := [0]) (by kernel_rfl) (by simp) ?_
                  refine AllReadyK.cons (i := 0) rfl (fun K hK => ?_) ?_
                  · refine step_build0 _ rfl rfl (build_stp0 _) ?_
                    have HX := Lib.hid (HX.out.below (below_alloc (Below.refl _ _) (.cells #[] 89)))
                    have HO : Hid (Own (Wc.alloc (.cells #[] 89)) wc.heap.size 5 (.slice (some ⟨Wc.heap.size, 0, none⟩) 0 0) 0 []) := Own.none_ _ _ _ _ _ (by simp)
                    try have hne : g7 ≠ Wc.heap.size := by have := H7.out.lt; omega
                    try have H7 := Lib.hid (H7.out.below (below_alloc (Below.refl _ _) (.cells #[] 89)))
                    generalize Wc.heap.size = g0 at *
                    generalize Wc.alloc (.cells #[] 89) = Wc at *
                    refine hK.out _ _ (fun _ => HX.out.y.loads) ?_
                    clear hK K
                    try simp only [Act.put, List.setIfInBounds_toArray, List.set_cons_zero, List.set_cons_succ]
                    refine wpAnyK_ready (rs := [2]) (by kernel_rfl) (by simp) ?_
                    refine AllReadyK.cons (i := 2) rfl (fun K hK => ?_) ?_
                    · have hbz := HX.out.b.size
                      (refine step_append_src _ rfl (.tmp 110) (.tmp 111) _ rfl wc.heap.size 89 i5 _ 5 56 Try.underlying87 hi5 hz50 hz51 hz52 rfl (by decide) _ 0 [] rfl HO.out _ dl.length (dl.flatMap Stp.cells) rfl (by rw [stp_flat]) (HX.out.x.src stp_len) stp_one (by unfold maxLen; omega) (by omega) (by first | (simp; done) | omega | (simp; omega)) ?_; intro v3 w3 hown3 hg3 hat3 hty3; have HTY3 := Lib.hid hty3; clear hty3)
                      have HX := Lib.hid (HX.out.app hg3)
                      try have H7 := Lib.hid (H7.out.keeps hg3 (fun hf => hne (Option.some.inj hf.1).symm))
                      have HO := Lib.hid hown3
                      clear hown3 hg3 hat3 hbz
                      obtain ⟨Wc, rfl⟩ : ∃ W, W = w3 := ⟨_, rfl⟩
                      refine hK.out _ _ (fun _ => HX.out.y.loads) ?_
                      clear hK K
                      try simp only [Act.put, List.setIfInBounds_toArray, List.set_cons_zero, List.set_cons_succ]
                      refine wpAnyK_ready (rs := [5]) (by kernel_rfl) (by simp) ?_
                      refine AllReadyK.cons (i := 5) rfl (fun K hK => ?_) ?_
                      · have hbz := HX.out.b.size
                        (refine step_append_src _ rfl (.tmp 112) (.tmp 114) _ rfl wc.heap.size 89 i5 _ 5 56 Try.underlying87 hi5 hz50 hz51 hz52 rfl (by decide) _ (0 + dl.length) ([] ++ dl.flatMap Stp.cells) rfl HO.out _ 1 (Stp.cells s) rfl rfl H7.out.src (by simp [Stp.cells, Value.oneCell']) (by unfold maxLen; omega) (by omega) (by first | (simp; done) | omega | (simp; omega)) ?_; intro v8 w8 hown8 hg8 hat8 hty8; have HTY8 := Lib.hid hty8; clear hty8)
                        have HX8 := Lib.hid (HX.out.app hg8)
                        obtain ⟨g8, o8, c8, rfl, q1, q2, hsl, hg8x, hbl⟩ := HX.out.done hown8 hg8
                        have HSL := Lib.hid hsl
                        have HBL := Lib.hid hbl
                        clear hown8 hg8 hat8 hsl hbl HX hbz
                        have HX := HX8
                        refine hK.out _ _ (fun _ => HX.out.y.loads) ?_
                        clear hK K
                        try simp only [Act.put, List.setIfInBounds_toArray, List.set_cons_zero, List.set_cons_succ]
                        refine wpAnyK_take2 (i := 6) (some 6) (v := ?v6_5k2b) rfl rfl (by kernel_rfl) (by kernel_rfl) (by kernel_rfl) (by kernel_rfl) (fun _ _ _ h => h) (Or.inl ⟨by rfl, ?y6_5k2b⟩) (fun _ => HX.out.y.loads) ?r6_5k2b
                        case y6_5k2b =>
                          intro w hSw
                          go_simp
                          try with_reducible rfl
                        try simp only [Act.put, List.setIfInBounds_toArray, List.set_cons_zero, List.set_cons_succ]
                        refine wpAnyK_done (by kernel_rfl) ?_ _
                        clear HX HO H7
                        by_cases hfm : dl.length + 1 ≤ mo
                        · have hd1 := no (show ¬ (mo : Int) < (dl.length : Int) + 1 by omega)
                          have hd2 := no (show ¬ mo < dl.length + 1 by omega)
                          have HF := Lib.hid (HM.out.few HBL.out HSL.out (fun i e => (Option.some.inj e).symm) hg8x hfm)
                          clear hfm
                          go_wp2_with fail
                          go_meet
                          exact ⟨_, _, _, HF.out⟩
                        · have hd1 : (mo : Int) < (dl.length : Int) + 1 := by omega
                          have hd2 : mo < dl.length + 1 := by omega
                          have hd3 : (1 : Int) ≤ (dl.length : Int) + 1 := by omega
                          obtain ⟨r, hr⟩ := HM.out.full1 HBL.out HSL.out hg8x hfm hm1 q1
                          have HF := Lib.hid hr
                          clear hfm hr
                          go_wp2_with fail
                          go_meet
                          exact ⟨_, _, _, HF.out⟩
                      exact AllReadyK.nil
                    exact AllReadyK.nil
                  exact AllReadyK.nil
                exact AllReadyK.nil
              | true =>
                obtain ⟨⟨x0, x1, x2, x3⟩, y0, y1, y2, y3, y4⟩ := HN.out.loads2 HDL.out
                have z0 := HX.out.c0
                have z1 := HX.out.c1
                have z2 := HX.out.c2
                have yf := HN.out.b.f
                haveI : Old wc sb := ⟨HN.out.b.lt⟩
                haveI : Old wc ga := ⟨(HN.out.dx ga rfl).1⟩
                haveI : Old wc eb := ⟨HX.out.lt⟩
                have hqd : (dl.length : Int) - 1 = (l1.length : Int) := by have := HQ.out; omega
                have hms := HN.out.yes_ HDL.out HLK.out.1 HLK.out.2 (HTZ.out rfl)
                rw [HV.out.1, HV.out.2] at hms
                have HM0 := Lib.hid hms
                clear hms
                go_wp2
                (refine wp_region_grow_tail 10 (by kernel_rfl) (by kernel_rfl) ?_; simp only [List.take_succ_cons, List.take_zero, List.drop_succ_cons, List.drop_zero]; (repeat (go_big_quiet_step (fail))); refine wpQuiet_nil ?_; intro _ hw'; obtain ⟨gq, hw''⟩ := hw'; subst hw'')
                go_wp2
                generalize growSet (growSet (growSet (growSet (growSet gq ⟨sb, 0, none⟩ (.int .i64 z.ed.pos)) ⟨sb, 1, none⟩ (.string (B z.ed.del))) ⟨sb, 2, none⟩ (.string (B z.ed.ins))) ⟨sb, 3, none⟩ (.int .i64 x.ahead)) ⟨sb, 4, none⟩ (.int .i64 s.behind) = G5 at *
                have HM := Lib.hid (HM0.out.below (grow_below _ G5))
                generalize grow (((((wc.setCell ⟨sb, 0, none⟩ (.int .i64 z.ed.pos)).setCell ⟨sb, 1, none⟩ (.string (B z.ed.del))).setCell ⟨sb, 2, none⟩ (.string (B z.ed.ins))).setCell ⟨sb, 3, none⟩ (.int .i64 x.ahead)).setCell ⟨sb, 4, none⟩ (.int .i64 s.behind)) G5 = W5 at *
                have f0 := HC.out W5 HM.out.bl
                haveI : Old W5 b := ⟨Nat.lt_of_lt_of_le hb HM.out.bl.size⟩
                clear x0 x1 x2 x3 y0 y1 y2 y3 y4 z0 z1 z2 yf HM0
                refine wp_region_keyed (fun W => W.cell? ⟨sb, 0, none⟩ = some (.int .i64 z.ed.pos) ∧ W.cell? ⟨sb, 1, none⟩ = some (.string (B z.ed.del)) ∧ W.cell? ⟨sb, 2, none⟩ = some (.string (B z.ed.ins)) ∧ W.cell? ⟨sb, 3, none⟩ = some (.int .i64 z.ahead) ∧ W.cell? ⟨sb, 4, none⟩ = some (.int .i64 z.behind)) [] (by kernel_rfl) ?_
                have HX := Lib.hid (HM.out.rs rfl)
                generalize W5.drew = Wc at *
                refine wpAnyK_take2 (i := 1) (some 111) (v := ?v1_1k2c) rfl rfl (by kernel_rfl) (by kernel_rfl) (by kernel_rfl) (by kernel_rfl) (fun _ _ _ h => h) (Or.inl ⟨by rfl, ?y1_1k2c⟩) (fun _ => HX.out.y.loads) ?r1_1k2c
                case y1_1k2c =>
                  intro w hSw
                  go_simp
                  try with_reducible rfl
                try simp only [Act.put, List.setIfInBounds_toArray, List.set_cons_zero, List.set_cons_succ]
                refine wpAnyK_load2 (i := 3) [4, 5, 6] (some 113) (v := ?v3_2k2c) rfl rfl (by kernel_rfl) (by kernel_rfl) (by kernel_rfl) (by kernel_rfl) (by kernel_rfl) (fun _ _ _ h => h) (Or.inl ⟨by rfl, ?y3_2k2c⟩) (fun _ => HX.out.y.loads) ?r3_2k2c
                case y3_2k2c =>
                  intro w hSw
                  (try dsimp only at hSw)
                  go_split_ands
                  go_simp
                  try with_reducible rfl
                try simp only [Act.put, List.setIfInBounds_toArray, List.set_cons_zero, List.set_cons_succ]
                refine wpAnyK_ready (rs := [0, 4]) (by kernel_rfl) (by simp) ?_
                refine AllReadyK.cons (i := 0) rfl (fun K hK => ?_) ?_
                · refine step_build0 _ rfl rfl (build_stp0 _) ?_
                  have HX := Lib.hid (HX.out.below (below_alloc (Below.refl _ _) (.cells #[] 89)))
                  have HO : Hid (Own (Wc.alloc (.cells #[] 89)) W5.heap.size 5 (.slice (some ⟨Wc.heap.size, 0, none⟩) 0 0) 0 []) := Own.none_ _ _ _ _ _ (by simp)
                  try have hne : g7 ≠ Wc.heap.size := by have := H7.out.lt; omega
                  try have H7 := Lib.hid (H7.out.below (below_alloc (Below.refl _ _) (.cells #[] 89)))
                  generalize Wc.heap.size = g0 at *
                  generalize Wc.alloc (.cells #[] 89) = Wc at *
                  refine hK.out _ _ (fun _ => HX.out.y.loads) ?_
                  clear hK K
                  try simp only [Act.put, List.setIfInBounds_toArray, List.set_cons_zero, List.set_cons_succ]
                  refine wpAnyK_ready (rs := [2, 4]) (by kernel_rfl) (by simp) ?_
                  refine AllReadyK.cons (i := 2) rfl (fun K hK => ?_) ?_
                  · have hbz := HX.out.b.size
                    (refine step_append_src _ rfl (.tmp 110) (.tmp 111) _ rfl W5.heap.size 89 i5 _ 5 56 Try.underlying87 hi5 hz50 hz51 hz52 rfl (by decide) _ 0 [] rfl HO.out _ l1.length (l1.flatMap Stp.cells) rfl (by rw [stp_flat]) (HX.out.x.src stp_len) stp_one (by unfold maxLen; omega) (by omega) (by first | (simp; done) | omega | (simp; omega)) ?_; intro v3 w3 hown3 hg3 hat3 hty3; have HTY3 := Lib.hid hty3; clear hty3)
                    have HX := Lib.hid (HX.out.app hg3)
                    try have H7 := Lib.hid (H7.out.keeps hg3 (fun hf => hne (Option.some.inj hf.1).symm))
                    have HO := Lib.hid hown3
                    clear hown3 hg3 hat3 hbz
                    obtain ⟨Wc, rfl⟩ : ∃ W, W = w3 := ⟨_, rfl⟩
                    refine hK.out _ _ (fun _ => HX.out.y.loads) ?_
                    clear hK K
                    try simp only [Act.put, List.setIfInBounds_toArray, List.set_cons_zero, List.set_cons_succ]
                    refine wpAnyK_ready (rs := [4]) (by kernel_rfl) (by simp) ?_
                    refine AllReadyK.cons (i := 4) rfl (fun K hK => ?_) ?_
                    · refine step_build1 (.tmp 113) _ _ rfl rfl rfl (build_stp _ z) ?_
                      have HX := Lib.hid (HX.out.below (below_alloc (Below.refl _ _) (.cells #[.int .i64 z.ed.pos, .string (B z.ed.del), .string (B z.ed.ins), .int .i64 z.ahead, .int .i64 z.behind] 89)))
                      have H7 := Lib.hid (StpBox.new Wc z 89)
                      try have hne : Wc.heap.size ≠ g0 := by have := HO.out.lt g0 rfl; omega
                      try have HO := Lib.hid (HO.out.below (below_alloc (Below.refl _ _) (.cells #[.int .i64 z.ed.pos, .string (B z.ed.del), .string (B z.ed.ins), .int .i64 z.ahead, .int .i64 z.behind] 89)))
                      generalize Wc.heap.size = g7 at *
                      generalize Wc.alloc (.cells #[.int .i64 z.ed.pos, .string (B z.ed.del), .string (B z.ed.ins), .int .i64 z.ahead, .int .i64 z.behind] 89) = Wc at *
                      refine hK.out _ _ (fun _ => HX.out.y.loads) ?_
                      clear hK K
                      try simp only [Act.put, List.setIfInBounds_toArray, List.set_cons_zero, List.set_cons_succ]
                      refine wpAnyK_ready (rs := [5]) (by kernel_rfl) (by simp) ?_
                      refine AllReadyK.cons (i := 5) rfl (fun K hK => ?_) ?_
                      · have hbz := HX.out.b.size
                        (refine step_append_src _ rfl (.tmp 112) (.tmp 114) _ rfl W5.heap.size 89 i5 _ 5 56 Try.underlying87 hi5 hz50 hz51 hz52 rfl (by decide) _ (0 + l1.length) ([] ++ l1.flatMap Stp.cells) rfl HO.out _ 1 (Stp.cells z) rfl rfl H7.out.src (by simp [Stp.cells, Value.oneCell']) (by unfold maxLen; omega) (by omega) (by first | (simp; done) | omega | (simp; omega)) ?_; intro v8 w8 hown8 hg8 hat8 hty8; have HTY8 := Lib.hid hty8; clear hty8)
                        have HX8 := Lib.hid (HX.out.app hg8)
                        obtain ⟨g8, o8, c8, rfl, q1, q2, hsl, hg8x, hbl⟩ := HX.out.done hown8 hg8
                        have HSL := Lib.hid hsl
                        have HBL := Lib.hid hbl
                        clear hown8 hg8 hat8 hsl hbl HX hbz
                        have HX := HX8
                        refine hK.out _ _ (fun _ => HX.out.y.loads) ?_
                        clear hK K
                        try simp only [Act.put, List.setIfInBounds_toArray, List.set_cons_zero, List.set_cons_succ]
                        refine wpAnyK_take2 (i := 6) (some 6) (v := ?v6_3k2c) rfl rfl (by kernel_rfl) (by kernel_rfl) (by kernel_rfl) (by kernel_rfl) (fun _ _ _ h => h) (Or.inl ⟨by rfl, ?y6_3k2c⟩) (fun _ => HX.out.y.loads) ?r6_3k2c
                        case y6_3k2c =>
                          intro w hSw
                          go_simp
                          try with_reducible rfl
                        try simp only [Act.put, List.setIfInBounds_toArray, List.set_cons_zero, List.set_cons_succ]
                        refine wpAnyK_done (by kernel_rfl) ?_ _
                        clear HX HO H7
                        have hfm : l1.length + 1 ≤ mo := by have := HQ.out; have := HLK.out.2; omega
                        have hd1 := no (show ¬ (mo : Int) < (l1.length : Int) + 1 by omega)
                        have hd2 := no (show ¬ mo < l1.length + 1 by omega)
                        have HF := Lib.hid (HM.out.few HBL.out HSL.out (fun i e => (Option.some.inj e).symm) hg8x hfm)
                        clear hfm
                        go_wp2_with fail
                        go_meet
                        exact ⟨_, _, _, HF.out⟩
                      exact AllReadyK.nil
                    exact AllReadyK.nil
                  refine AllReadyK.cons (i := 4) rfl (fun K hK => ?_) ?_
                  · refine step_build1 (.tmp 113) _ _ rfl rfl rfl (build_stp _ z) ?_
                    have HX := Lib.hid (HX.out.below (below_alloc (Below.refl _ _) (.cells #[.int .i64 z.ed.pos, .string (B z.ed.del), .string (B z.ed.ins), .int .i64 z.ahead, .int .i64 z.behind] 89)))
                    have H7 := Lib.hid (StpBox.new Wc z 89)
                    try have hne : Wc.heap.size ≠ g0 := by have := HO.out.lt g0 rfl; omega
                    try have HO := Lib.hid (HO.out.below (below_alloc (Below.refl _ _) (.cells #[.int .i64 z.ed.pos, .string (B z.ed.del), .string (B z.ed.ins), .int .i64 z.ahead, .int .i64 z.behind] 89)))
                    generalize Wc.heap.size = g7 at *
                    generalize Wc.alloc (.cells #[.int .i64 z.ed.pos, .string (B z.ed.del), .string (B z.ed.ins), .int .i64 z.ahead, .int .i64 z.behind] 89) = Wc at *
                    refine hK.out _ _ (fun _ => HX.out.y.loads) ?_
                    clear hK K
                    try simp only [Act.put, List.setIfInBounds_toArray, List.set_cons_zero, List.set_cons_succ]
                    refine wpAnyK_ready (rs := [2]) (by kernel_rfl) (by simp) ?_
                    refine AllReadyK.cons (i := 2) rfl (fun K hK => ?_) ?_
                    · have hbz := HX.out.b.size
                      (refine step_append_src _ rfl (.tmp 110) (.tmp 111) _ rfl W5.heap.size 89 i5 _ 5 56 Try.underlying87 hi5 hz50 hz51 hz52 rfl (by decide) _ 0 [] rfl HO.out _ l1.length (l1.flatMap Stp.cells) rfl (by rw [stp_flat]) (HX.out.x.src stp_len) stp_one (by unfold maxLen; omega) (by omega) (by first | (simp; done) | omega | (simp; omega)) ?_; intro v3 w3 hown3 hg3 hat3 hty3; have HTY3 := Lib.hid hty3; clear hty3)
                      have HX := Lib.hid (HX.out.app hg3)
                      try have H7 := Lib.hid (H7.out.keeps hg3 (fun hf => hne (Option.some.inj hf.1).symm))
                      have HO := Lib.hid hown3
                      clear hown3 hg3 hat3 hbz
                      obtain ⟨Wc, rfl⟩ : ∃ W, W = w3 := ⟨_, rfl⟩
                      refine hK.out _ _ (fun _ => HX.out.y.loads) ?_
                      clear hK K
                      try simp only [Act.put, List.setIfInBounds_toArray, List.set_cons_zero, List.set_cons_succ]
                      refine wpAnyK_ready (rs := [5]) (by kernel_rfl) (by simp) ?_
                      refine AllReadyK.cons (i := 5) rfl (fun K hK => ?_) ?_
                      · have hbz := HX.out.b.size
                        (refine step_append_src _ rfl (.tmp 112) (.tmp 114) _ rfl W5.heap.size 89 i5 _ 5 56 Try.underlying87 hi5 hz50 hz51 hz52 rfl (by decide) _ (0 + l1.length) ([] ++ l1.flatMap Stp.cells) rfl HO.out _ 1 (Stp.cells z) rfl rfl H7.out.src (by simp [Stp.cells, Value.oneCell']) (by unfold maxLen; omega) (by omega) (by first | (simp; done) | omega | (simp; omega)) ?_; intro v8 w8 hown8 hg8 hat8 hty8; have HTY8 := Lib.hid hty8; clear hty8)
                        have HX8 := Lib.hid (HX.out.app hg8)
                        obtain ⟨g8, o8, c8, rfl, q1, q2, hsl, hg8x, hbl⟩ := HX.out.done hown8 hg8
                        have HSL := Lib.hid hsl
                        have HBL := Lib.hid hbl
                        clear hown8 hg8 hat8 hsl hbl HX hbz
                        have HX := HX8
                        refine hK.out _ _ (fun _ => HX.out.y.loads) ?_
                        clear hK K
                        try simp only [Act.put, List.setIfInBounds_toArray, List.set_cons_zero, List.set_cons_succ]
                        refine wpAnyK_take2 (i := 6) (some 6) (v := ?v6_4k2c) rfl rfl (by kernel_rfl) (by kernel_rfl) (by kernel_rfl) (by kernel_rfl) (fun _ _ _ h => h) (Or.inl ⟨by rfl, ?y6_4k2c⟩) (fun _ => HX.out.y.loads) ?r6_4k2c
                        case y6_4k2c =>
                          intro w hSw
                          go_simp
                          try with_reducible rfl
                        try simp only [Act.put, List.setIfInBounds_toArray, List.set_cons_zero, List.set_cons_succ]
                        refine wpAnyK_done (by kernel_rfl) ?_ _
                        clear HX HO H7
                        have hfm : l1.length + 1 ≤ mo := by have := HQ.out; have := HLK.out.2; omega
                        have hd1 := no (show ¬ (mo : Int) < (l1.length : Int) + 1 by omega)
                        have hd2 := no (show ¬ mo < l1.length + 1 by omega)
                        have HF := Lib.hid (HM.out.few HBL.out HSL.out (fun i e => (Option.some.inj e).symm) hg8x hfm)
                        clear hfm
                        go_wp2_with fail
                        go_meet
                        exact ⟨_, _, _, HF.out⟩
                      exact AllReadyK.nil
                    exact AllReadyK.nil
                  exact AllReadyK.nil
                refine AllReadyK.cons (i := 4) rfl (fun K hK => ?_) ?_
                · refine step_build1 (.tmp 113) _ _ rfl rfl rfl (build_stp _ z) ?_
                  have HX := Lib.hid (HX.out.below (below_alloc (Below.refl _ _) (.cells #[.int .i64 z.ed.pos, .string (B z.ed.del), .string (B z.ed.ins), .int .i64 z.ahead, .int .i64 z.behind] 89)))
                  have H7 := Lib.hid (StpBox.new Wc z 89)
                  try have hne : Wc.heap.size ≠ g0 := by have := HO.out.lt g0 rfl; omega
                  try have HO := Lib.hid (HO.out.below (below_alloc (Below.refl _ _) (.cells #[.int .i64 z.ed.pos, .string (B z.ed.del), .string (B z.ed.ins), .int .i64 z.ahead, .int .i64 z.behind] 89)))
                  generalize Wc.heap.size = g7 at *
                  generalize Wc.alloc (.cells #[.int .i64 z.ed.pos, .string (B z.ed.del), .string (B z.ed.ins), .int .i64 z.ahead, .int .i64 z.behind] 89) = Wc at *
                  refine hK.out _ _ (fun _ => HX.out.y.loads) ?_
                  clear hK K
                  try simp only [Act.put, List.setIfInBounds_toArray, List.set_cons_zero, List.set_cons_succ]
                  refine wpAnyK_ready (rs := [0]) (by kernel_rfl) (by simp) ?_
                  refine AllReadyK.cons (i := 0) rfl (fun K hK => ?_) ?_
                  · refine step_build0 _ rfl rfl (build_stp0 _) ?_
                    have HX := Lib.hid (HX.out.below (below_alloc (Below.refl _ _) (.cells #[] 89)))
                    have HO : Hid (Own (Wc.alloc (.cells #[] 89)) W5.heap.size 5 (.slice (some ⟨Wc.heap.size, 0, none⟩) 0 0) 0 []) := Own.none_ _ _ _ _ _ (by simp)
                    try have hne : g7 ≠ Wc.heap.size := by have := H7.out.lt; omega
                    try have H7 := Lib.hid (H7.out.below (below_alloc (Below.refl _ _) (.cells #[] 89)))
                    generalize Wc.heap.size = g0 at *
                    generalize Wc.alloc (.cells #[] 89) = Wc at *
                    refine hK.out _ _ (fun _ => HX.out.y.loads) ?_
                    clear hK K
                    try simp only [Act.put, List.setIfInBounds_toArray, List.set_cons_zero, List.set_cons_succ]
                    refine wpAnyK_ready (rs := [2]) (by kernel_rfl) (by simp) ?_
                    refine AllReadyK.cons (i := 2) rfl (fun K hK => ?_) ?_
                    · have hbz := HX.out.b.size
                      (refine step_append_src _ rfl (.tmp 110) (.tmp 111) _ rfl W5.heap.size 89 i5 _ 5 56 Try.underlying87 hi5 hz50 hz51 hz52 rfl (by decide) _ 0 [] rfl HO.out _ l1.length (l1.flatMap Stp.cells) rfl (by rw [stp_flat]) (HX.out.x.src stp_len) stp_one (by unfold maxLen; omega) (by omega) (by first | (simp; done) | omega | (simp; omega)) ?_; intro v3 w3 hown3 hg3 hat3 hty3; have HTY3 := Lib.hid hty3; clear hty3)
                      have HX := Lib.hid (HX.out.app hg3)
                      try have H7 := Lib.hid (H7.out.keeps hg3 (fun hf => hne (Option.some.inj hf.1).symm))
                      have HO := Lib.hid hown3
                      clear hown3 hg3 hat3 hbz
                      obtain ⟨Wc, rfl⟩ : ∃ W, W = w3 := ⟨_, rfl⟩
                      refine hK.out _ _ (fun _ => HX.out.y.loads) ?_
                      clear hK K
                      try simp only [Act.put, List.setIfInBounds_toArray, List.set_cons_zero, List.set_cons_succ]
                      refine wpAnyK_ready (rs := [5]) (by kernel_rfl) (by simp) ?_
                      refine AllReadyK.cons (i := 5) rfl (fun K hK => ?_) ?_
                      · have hbz := HX.out.b.size
                        (refine step_append_src _ rfl (.tmp 112) (.tmp 114) _ rfl W5.heap.size 89 i5 _ 5 56 Try.underlying87 hi5 hz50 hz51 hz52 rfl (by decide) _ (0 + l1.length) ([] ++ l1.flatMap Stp.cells) rfl HO.out _ 1 (Stp.cells z) rfl rfl H7.out.src (by simp [Stp.cells, Value.oneCell']) (by unfold maxLen; omega) (by omega) (by first | (simp; done) | omega | (simp; omega)) ?_; intro v8 w8 hown8 hg8 hat8 hty8; have HTY8 := Lib.hid hty8; clear hty8)
                        have HX8 := Lib.hid (HX.out.app hg8)
                        obtain ⟨g8, o8, c8, rfl, q1, q2, hsl, hg8x, hbl⟩ := HX.out.done hown8 hg8
                        have HSL := Lib.hid hsl
                        have HBL := Lib.hid hbl
                        clear hown8 hg8 hat8 hsl hbl HX hbz
                        have HX := HX8
                        refine hK.out _ _ (fun _ => HX.out.y.loads) ?_
                        clear hK K
                        try simp only [Act.put, List.setIfInBounds_toArray, List.set_cons_zero, List.set_cons_succ]
                        refine wpAnyK_take2 (i := 6) (some 6) (v := ?v6_5k2c) rfl rfl (by kernel_rfl) (by kernel_rfl) (by kernel_rfl) (by kernel_rfl) (fun _ _ _ h => h) (Or.inl ⟨by rfl, ?y6_5k2c⟩) (fun _ => HX.out.y.loads) ?r6_5k2c
                        case y6_5k2c =>
                          intro w hSw
                          go_simp
                          try with_reducible rfl
                        try simp only [Act.put, List.setIfInBounds_toArray, List.set_cons_zero, List.set_cons_succ]
                        refine wpAnyK_done (by kernel_rfl) ?_ _
                        clear HX HO H7
                        have hfm : l1.length + 1 ≤ mo := by have := HQ.out; have := HLK.out.2; omega
                        have hd1 := no (show ¬ (mo : Int) < (l1.length : Int) + 1 by omega)
                        have hd2 := no (show ¬ mo < l1.length + 1 by omega)
                        have HF := Lib.hid (HM.out.few HBL.out HSL.out (fun i e => (Option.some.inj e).symm) hg8x hfm)
                        clear hfm
                        go_wp2_with fail
                        go_meet
                        exact ⟨_, _, _, HF.out⟩
                      exact AllReadyK.nil
                    exact AllReadyK.nil
                  exact AllReadyK.nil
                exact AllReadyK.nil

      · rcases List.eq_nil_or_concat dl with hd0 | ⟨l1, x, hdl⟩
        · as_aux_lemma =>
            have HD0 := Lib.hid (show dl.length = 0 by rw [hd0]; rfl)
            have hj0 : JAt W0 w.heap.size jb lv mo (dl ++ ul) 0 := by have := HI0.out.j; rwa [HD0.out] at this
            have HU := Lib.hid (undo_none _ _ _ _ _ _ hj0)
            have HVL : Hid (stp0.val = .agg #[.int .i64 0, .string (B []), .string (B []), .int .i64 0, .int .i64 0]) := rfl
            have hz1 := no (show ¬ 0 < dl.length by have := HD0.out; omega)
            have hz2 := no (show ¬ (0 : Int) < (dl.length : Int) by have := HD0.out; omega)
            clear hj0 hd0
            go_wp2_with (go_at_call 54; refine HU.out.mono ?_; rintro e w2 ⟨rfl, hj2, hk2⟩; rw [HVL.out]; rw [← HD0.out] at hj2; have HF := Lib.hid (HI0.out.none_ hj2 hk2 (below_alloc (Below.refl _ _) (.cells #[.int .i64 0, .string (B []), .string (B []), .int .i64 0, .int .i64 0] 89))); clear hj2 hk2)
            go_quiet (fail)
            go_wp2_with fail
            go_meet
            exact ⟨_, _, _, HF.out.below (by show Below _ _ _; first | exact below_drewN (Below.refl _ _) _ | exact below_drew (Below.refl _ _))⟩
        · as_aux_lemma =>
            have hdl : dl = l1 ++ [x] := by simpa using hdl
            have HDL := Lib.hid hdl
            have HQ := Lib.hid (show dl.length = l1.length + 1 by rw [hdl]; simp)
            have hj0 : JAt W0 w.heap.size jb lv mo (dl ++ ul) (l1.length + 1) := by have := HI0.out.j; rwa [HQ.out] at this
            have HU := Lib.hid (undo_some _ _ _ _ _ _ l1.length x hj0 (by rw [hdl]; simp) (by simp; omega))
            have HVL : Hid (x.val = .agg #[.int .i64 x.ed.pos, .string (B x.ed.del), .string (B x.ed.ins), .int .i64 x.ahead, .int .i64 x.behind]) := rfl
            have hz1 := yes (show 0 < dl.length by have := HQ.out; omega)
            have hz2 := yes (show (0 : Int) < (dl.length : Int) by have := HQ.out; omega)
            have hwq : IntKind.i64.wrap ((dl.length : Int) - 1) = (l1.length : Int) := by have := HQ.out; rw [IntWalk.i64_in _ (by omega)]; omega
            have hq0 : (0 : Int) ≤ (l1.length : Int) := by omega
            have hq1 : (l1.length : Int) < (dl.length : Int) := by have := HQ.out; omega
            have hq2 : l1.length ≤ dl.length := by have := HQ.out; omega
            clear hj0 hdl
            go_wp2_with (go_at_call 54; refine HU.out.mono ?_; rintro e w2 ⟨rfl, hj2, hk2⟩; rw [HVL.out]; have HJ2 := Lib.hid hj2; have HK2 := Lib.hid hk2; clear hj2 hk2)
            have HJ3 := Lib.hid (HJ2.out.below (below_alloc (Below.refl _ _) (.cells #[.int .i64 x.ed.pos, .string (B x.ed.del), .string (B x.ed.ins), .int .i64 x.ahead, .int .i64 x.behind] 89)))
            have hdd := (HI0.out.d.keepsF HK2.out (fun i e hf => (HI0.out.dx i e).2.1 hf)).below (below_alloc (Below.refl _ _) (.cells #[.int .i64 x.ed.pos, .string (B x.ed.del), .string (B x.ed.ins), .int .i64 x.ahead, .int .i64 x.behind] 89))
            have huu := (HI0.out.u.keepsF HK2.out (fun i e hf => (HI0.out.ux i e).2.1 hf)).below (below_alloc (Below.refl _ _) (.cells #[.int .i64 x.ed.pos, .string (B x.ed.del), .string (B x.ed.ins), .int .i64 x.ahead, .int .i64 x.behind] 89))
            have HUU := Lib.hid huu
            have HB3 := Lib.hid (below_alloc (Below.refl w2.heap.size w2) (.cells #[.int .i64 x.ed.pos, .string (B x.ed.del), .string (B x.ed.ins), .int .i64 x.ahead, .int .i64 x.behind] 89))
            have HX3 := Lib.hid (StpBox.new w2 x 89)
            rw [HDL.out] at hdd
            obtain ⟨ga, oa, rfl, -, hca, hcb, hga, -, z0, z1, z2, z3, z4⟩ := sl_init5 hdd
            generalize w2.alloc (.cells #[.int .i64 x.ed.pos, .string (B x.ed.del), .string (B x.ed.ins), .int .i64 x.ahead, .int .i64 x.behind] 89) = W3 at *
            obtain ⟨x0, x1, x2, x3, x4⟩ := HX3.out.loads
            haveI : Old W3 ga := ⟨hga⟩
            haveI : Old W3 w2.heap.size := ⟨HX3.out.lt⟩
            have hqd : (dl.length : Int) - 1 = (l1.length : Int) := by have := HQ.out; omega
            have hcd : l1.length ≤ cd := by omega
            clear hdd huu
            go_quiet (fail)
            clear x0 x1 x2 x3 x4 z0 z1 z2 z3 z4
            have HX4 := Lib.hid (HX3.out.below (grow_of_drewN W3 nq))
            have HU4 := Lib.hid (HUU.out.below (grow_of_drewN W3 nq))
            have HB4 := Lib.hid (below_then HB3.out (grow_of_drewN W3 nq))
            generalize W3.drewN nq = W4 at *
            obtain ⟨x0, x1, x2, x3, x4⟩ := HX4.out.loads
            haveI : Old W4 w2.heap.size := ⟨HX4.out.lt⟩
            go_wp2_with (first
              | (with_reducible (show wpList _ _ _ (Oper.mk (some 158) _ _ _ _ _ :: _) _ _); refine wpList_build1 (t := 87) (n := 1) (i := 0) (.tmp 157) (.agg #[.int .i64 x.ed.pos, .string (B x.ed.del), .string (B x.ed.ins), .int .i64 x.ahead, .int .i64 x.behind]) _ rfl rfl rfl (build_stp _ x) ?_; try simp only [Act.put, List.setIfInBounds_toArray, List.set_cons_zero, List.set_cons_succ])
              | ((at_builtin; refine wpList_append_src _ rfl (.tmp 158) (.tmp 159) _ rfl W4.heap.size 89 i5 _ 5 56 Try.underlying87 hi5 hz50 hz51 hz52 rfl (by decide) _ 1 (Stp.cells x) rfl (own_stp1 W4 x 89) _ ul.length (ul.flatMap Stp.cells) rfl (by rw [stp_flat]) ((HU4.out.below (below_alloc (Below.refl _ _) _)).src stp_len) stp_one (by unfold maxLen; omega) (by omega) (by first | (simp; done) | omega | (simp; omega)) ?_; intro v35 w35 hown35 hg35 hat35 hty35; have HTY35 := Lib.hid hty35; clear hty35); obtain ⟨g5, o5, c5, rfl, hsl5, hg5, hb5⟩ := undone_row hown35 hg35; have HF := Lib.hid (HI0.out.undone HDL.out HJ2.out HK2.out (below_then HB4.out hb5) hsl5 (fun i e => by obtain rfl : g5 = i := Option.some.inj e; have := HB4.out.size; omega)); clear hown35 hg35 hat35 hsl5 hb5))
            go_meet
            exact ⟨_, _, _, HF.out⟩
      · rcases list_parts ul with hulc | ⟨y, r, hulc⟩
        · as_aux_lemma =>
            have HULE := Lib.hid hulc
            clear hulc
            have HLN := Lib.hid (show (dl ++ ul).length = dl.length by rw [HULE.out]; simp)
            have HL0 := Lib.hid (show ul.length = 0 by rw [HULE.out]; rfl)
            have hj0 : JAt W0 w.heap.size jb lv mo (dl ++ ul) (dl ++ ul).length := by rw [HLN.out]; exact HI0.out.j
            have HU := Lib.hid (redo_none _ _ _ _ _ _ hj0)
            have HVL : Hid (stp0.val = .agg #[.int .i64 0, .string (B []), .string (B []), .int .i64 0, .int .i64 0]) := rfl
            have hz1 := no (show ¬ 0 < ul.length by have := HL0.out; omega)
            have hz2 := no (show ¬ (0 : Int) < (ul.length : Int) by have := HL0.out; omega)
            clear hj0
            go_wp2_with (go_at_call 55; refine HU.out.mono ?_; rintro e w2 ⟨rfl, hj2, hk2⟩; rw [HVL.out]; rw [HLN.out] at hj2; have HF := Lib.hid (HI0.out.none_ hj2 hk2 (below_alloc (Below.refl _ _) (.cells #[.int .i64 0, .string (B []), .string (B []), .int .i64 0, .int .i64 0] 89))); clear hj2 hk2)
            go_quiet (fail)
            go_wp2_with fail
            go_meet
            exact ⟨_, _, _, HF.out.below (by show Below _ _ _; first | exact below_drewN (Below.refl _ _) _ | exact below_drew (Below.refl _ _))⟩
        · as_aux_lemma =>
            have HUL := Lib.hid hulc
            have HR := Lib.hid (show ul.length = r.length + 1 by rw [hulc]; rfl)
            have HU := Lib.hid (redo_some _ _ _ _ _ _ dl.length y HI0.out.j (by rw [hulc]; simp) (by simp; omega))
            have HVL : Hid (y.val = .agg #[.int .i64 y.ed.pos, .string (B y.ed.del), .string (B y.ed.ins), .int .i64 y.ahead, .int .i64 y.behind]) := rfl
            have hz1 := yes (show 0 < ul.length by have := HR.out; omega)
            have hz2 := yes (show (0 : Int) < (ul.length : Int) by have := HR.out; omega)
            have hz3 : (0 : Int) < (ul.length : Int) := by have := HR.out; omega
            have hz4 : (1 : Int) ≤ (ul.length : Int) := by have := HR.out; omega
            clear hulc
            go_wp2_with (go_at_call 55; refine HU.out.mono ?_; rintro e w2 ⟨rfl, hj2, hk2⟩; rw [HVL.out]; have HJ2 := Lib.hid hj2; have HK2 := Lib.hid hk2; clear hj2 hk2)
            have HDD := Lib.hid ((HI0.out.d.keepsF HK2.out (fun i e hf => (HI0.out.dx i e).2.1 hf)).below (below_alloc (Below.refl _ _) (.cells #[.int .i64 y.ed.pos, .string (B y.ed.del), .string (B y.ed.ins), .int .i64 y.ahead, .int .i64 y.behind] 89)))
            have huu := (HI0.out.u.keepsF HK2.out (fun i e hf => (HI0.out.ux i e).2.1 hf)).below (below_alloc (Below.refl _ _) (.cells #[.int .i64 y.ed.pos, .string (B y.ed.del), .string (B y.ed.ins), .int .i64 y.ahead, .int .i64 y.behind] 89))
            have HB3 := Lib.hid (below_alloc (Below.refl w2.heap.size w2) (.cells #[.int .i64 y.ed.pos, .string (B y.ed.del), .string (B y.ed.ins), .int .i64 y.ahead, .int .i64 y.behind] 89))
            have HX3 := Lib.hid (StpBox.new w2 y 89)
            have HDX := Lib.hid (fun i (e : (Value.slice Ad dl.length cd).ownBlock = some i) => Nat.lt_of_lt_of_le (HI0.out.dx i e).1 HK2.out.size)
            rw [HUL.out] at huu
            obtain ⟨gu, ou, rfl, -, -, -, hgu, -⟩ := sl_tl5 huu
            obtain ⟨z0, z1, z2, z3, z4⟩ := sl_head5 huu
            generalize w2.alloc (.cells #[.int .i64 y.ed.pos, .string (B y.ed.del), .string (B y.ed.ins), .int .i64 y.ahead, .int .i64 y.behind] 89) = W3 at *
            obtain ⟨x0, x1, x2, x3, x4⟩ := HX3.out.loads
            haveI : Old W3 gu := ⟨hgu⟩
            haveI : Old W3 w2.heap.size := ⟨HX3.out.lt⟩
            clear huu
            go_quiet (fail)
            clear x0 x1 x2 x3 x4 z0 z1 z2 z3 z4
            have HX4 := Lib.hid (HX3.out.below (grow_of_drewN W3 nq))
            have HD4 := Lib.hid (HDD.out.below (grow_of_drewN W3 nq))
            have HB4 := Lib.hid (below_then HB3.out (grow_of_drewN W3 nq))
            generalize W3.drewN nq = W4 at *
            obtain ⟨x0, x1, x2, x3, x4⟩ := HX4.out.loads
            haveI : Old W4 w2.heap.size := ⟨HX4.out.lt⟩
            have HRS : Hid (RS W4 W4.drew Ad cd dl w2.heap.size y) := ⟨HD4.out.below (below_drew (Below.refl _ _)), HX4.out.below (below_drew (Below.refl _ _)), below_drew (Below.refl _ _), fun i e => Nat.lt_of_lt_of_le (HDX.out i e) HB4.out.size, HX4.out.lt⟩
            clear x0 x1 x2 x3 x4
            go_upto_region 42 with fail
            refine wp_region_keyed (fun W => W.cell? ⟨w2.heap.size, 0, none⟩ = some (.int .i64 y.ed.pos) ∧ W.cell? ⟨w2.heap.size, 1, none⟩ = some (.string (B y.ed.del)) ∧ W.cell? ⟨w2.heap.size, 2, none⟩ = some (.string (B y.ed.ins)) ∧ W.cell? ⟨w2.heap.size, 3, none⟩ = some (.int .i64 y.ahead) ∧ W.cell? ⟨w2.heap.size, 4, none⟩ = some (.int .i64 y.behind)) [] (by kernel_rfl) ?_
            have HX := Lib.hid (HRS.out)
            generalize W4.drew = Wc at *
            refine wpAnyK_take2 (i := 1) (some 199) (v := ?v1_1k4) rfl rfl (by kernel_rfl) (by kernel_rfl) (by kernel_rfl) (by kernel_rfl) (fun _ _ _ h => h) (Or.inl ⟨by rfl, ?y1_1k4⟩) (fun _ => HX.out.y.loads) ?r1_1k4
            case y1_1k4 =>
              intro w hSw
              go_simp
              try with_reducible rfl
            try simp only [Act.put, List.setIfInBounds_toArray, List.set_cons_zero, List.set_cons_succ]
            refine wpAnyK_load2 (i := 3) [] (some 201) (v := ?v3_2k4) rfl rfl (by kernel_rfl) (by kernel_rfl) (by kernel_rfl) (by kernel_rfl) (by kernel_rfl) (fun _ _ _ h => h) (Or.inl ⟨by rfl, ?y3_2k4⟩) (fun _ => HX.out.y.loads) ?r3_2k4
            case y3_2k4 =>
              intro w hSw
              (try dsimp only at hSw)
              go_split_ands
              go_simp
              try with_reducible rfl
            try simp only [Act.put, List.setIfInBounds_toArray, List.set_cons_zero, List.set_cons_succ]
            refine wpAnyK_ready (rs := [0, 4]) (by kernel_rfl) (by simp) ?_
            refine AllReadyK.cons (i := 0) rfl (fun K hK => ?_) ?_
            · refine step_build0 _ rfl rfl (build_stp0 _) ?_
              have HX := Lib.hid (HX.out.below (below_alloc (Below.refl _ _) (.cells #[] 89)))
              have HO : Hid (Own (Wc.alloc (.cells #[] 89)) W4.heap.size 5 (.slice (some ⟨Wc.heap.size, 0, none⟩) 0 0) 0 []) := Own.none_ _ _ _ _ _ (by simp)
              try have hne : g7 ≠ Wc.heap.size := by have := H7.out.lt; omega
              try have H7 := Lib.hid (H7.out.below (below_alloc (Below.refl _ _) (.cells #[] 89)))
              generalize Wc.heap.size = g0 at *
              generalize Wc.alloc (.cells #[] 89) = Wc at *
              refine hK.out _ _ (fun _ => HX.out.y.loads) ?_
              clear hK K
              try simp only [Act.put, List.setIfInBounds_toArray, List.set_cons_zero, List.set_cons_succ]
              refine wpAnyK_ready (rs := [2, 4]) (by kernel_rfl) (by simp) ?_
              refine AllReadyK.cons (i := 2) rfl (fun K hK => ?_) ?_
              · have hbz := HX.out.b.size
                (refine step_append_src _ rfl (.tmp 198) (.tmp 199) _ rfl W4.heap.size 89 i5 _ 5 56 Try.underlying87 hi5 hz50 hz51 hz52 rfl (by decide) _ 0 [] rfl HO.out _ dl.length (dl.flatMap Stp.cells) rfl (by rw [stp_flat]) (HX.out.x.src stp_len) stp_one (by unfold maxLen; omega) (by omega) (by first | (simp; done) | omega | (simp; omega)) ?_; intro v3 w3 hown3 hg3 hat3 hty3; have HTY3 := Lib.hid hty3; clear hty3)
                have HX := Lib.hid (HX.out.app hg3)
                try have H7 := Lib.hid (H7.out.keeps hg3 (fun hf => hne (Option.some.inj hf.1).symm))
                have HO := Lib.hid hown3
                clear hown3 hg3 hat3 hbz
                obtain ⟨Wc, rfl⟩ : ∃ W, W = w3 := ⟨_, rfl⟩
                refine hK.out _ _ (fun _ => HX.out.y.loads) ?_
                clear hK K
                try simp only [Act.put, List.setIfInBounds_toArray, List.set_cons_zero, List.set_cons_succ]
                refine wpAnyK_ready (rs := [4]) (by kernel_rfl) (by simp) ?_
                refine AllReadyK.cons (i := 4) rfl (fun K hK => ?_) ?_
                · refine step_build1 (.tmp 201) _ _ rfl rfl rfl (build_stp _ y) ?_
                  have HX := Lib.hid (HX.out.below (below_alloc (Below.refl _ _) (.cells #[.int .i64 y.ed.pos, .string (B y.ed.del), .string (B y.ed.ins), .int .i64 y.ahead, .int .i64 y.behind] 89)))
                  have H7 := Lib.hid (StpBox.new Wc y 89)
                  try have hne : Wc.heap.size ≠ g0 := by have := HO.out.lt g0 rfl; omega
                  try have HO := Lib.hid (HO.out.below (below_alloc (Below.refl _ _) (.cells #[.int .i64 y.ed.pos, .string (B y.ed.del), .string (B y.ed.ins), .int .i64 y.ahead, .int .i64 y.behind] 89)))
                  generalize Wc.heap.size = g7 at *
                  generalize Wc.alloc (.cells #[.int .i64 y.ed.pos, .string (B y.ed.del), .string (B y.ed.ins), .int .i64 y.ahead, .int .i64 y.behind] 89) = Wc at *
                  refine hK.out _ _ (fun _ => HX.out.y.loads) ?_
                  clear hK K
                  try simp only [Act.put, List.setIfInBounds_toArray, List.set_cons_zero, List.set_cons_succ]
                  refine wpAnyK_ready (rs := [5]) (by kernel_rfl) (by simp) ?_
                  refine AllReadyK.cons (i := 5) rfl (fun K hK => ?_) ?_
                  · have hbz := HX.out.b.size
                    (refine step_append_src _ rfl (.tmp 200) (.tmp 202) _ rfl W4.heap.size 89 i5 _ 5 56 Try.underlying87 hi5 hz50 hz51 hz52 rfl (by decide) _ (0 + dl.length) ([] ++ dl.flatMap Stp.cells) rfl HO.out _ 1 (Stp.cells y) rfl rfl H7.out.src (by simp [Stp.cells, Value.oneCell']) (by unfold maxLen; omega) (by omega) (by first | (simp; done) | omega | (simp; omega)) ?_; intro v8 w8 hown8 hg8 hat8 hty8; have HTY8 := Lib.hid hty8; clear hty8)
                    have HX8 := Lib.hid (HX.out.app hg8)
                    obtain ⟨g8, o8, c8, rfl, q1, q2, hsl, hg8x, hbl⟩ := HX.out.done hown8 hg8
                    have HSL := Lib.hid hsl
                    have HBL := Lib.hid hbl
                    clear hown8 hg8 hat8 hsl hbl HX hbz
                    have HX := HX8
                    refine hK.out _ _ (fun _ => HX.out.y.loads) ?_
                    clear hK K
                    try simp only [Act.put, List.setIfInBounds_toArray, List.set_cons_zero, List.set_cons_succ]
                    refine wpAnyK_take2 (i := 6) (some 6) (v := ?v6_3k4) rfl rfl (by kernel_rfl) (by kernel_rfl) (by kernel_rfl) (by kernel_rfl) (fun _ _ _ h => h) (Or.inl ⟨by rfl, ?y6_3k4⟩) (fun _ => HX.out.y.loads) ?r6_3k4
                    case y6_3k4 =>
                      intro w hSw
                      go_simp
                      try with_reducible rfl
                    try simp only [Act.put, List.setIfInBounds_toArray, List.set_cons_zero, List.set_cons_succ]
                    refine wpAnyK_done (by kernel_rfl) ?_ _
                    clear HX HO H7
                    have hrl : ul.length - 1 = r.length := by have := HR.out; omega
                    obtain ⟨gu', ou', eu, hf⟩ := HI0.out.redone HUL.out HJ2.out HK2.out (below_then HB4.out HBL.out) HSL.out ⟨Nat.le_trans HB4.out.size hg8x.1, hg8x.2⟩
                    injection eu with eu
                    cases eu
                    by_cases hcu : cu = 1
                    · subst hcu
                      rw [if_pos rfl] at hf
                      have HF : Hid (PlI w w8 jb lv (.slice (some ⟨g8, o8, none⟩) (dl.length + 1) c8) (.slice (some ⟨gu, ou, none⟩) r.length 0) mo (dl ++ [y]) r (k + 1)) := hf
                      clear hf
                      go_wp2_with fail
                      go_meet
                      exact ⟨_, _, _, HF.out⟩
                    · rw [if_neg hcu] at hf
                      have HF := Lib.hid hf
                      clear hf
                      go_wp2_with fail
                      go_meet
                      exact ⟨_, _, _, HF.out⟩
                  exact AllReadyK.nil
                exact AllReadyK.nil
              refine AllReadyK.cons (i := 4) rfl (fun K hK => ?_) ?_
              · refine step_build1 (.tmp 201) _ _ rfl rfl rfl (build_stp _ y) ?_
                have HX := Lib.hid (HX.out.below (below_alloc (Below.refl _ _) (.cells #[.int .i64 y.ed.pos, .string (B y.ed.del), .string (B y.ed.ins), .int .i64 y.ahead, .int .i64 y.behind] 89)))
                have H7 := Lib.hid (StpBox.new Wc y 89)
                try have hne : Wc.heap.size ≠ g0 := by have := HO.out.lt g0 rfl; omega
                try have HO := Lib.hid (HO.out.below (below_alloc (Below.refl _ _) (.cells #[.int .i64 y.ed.pos, .string (B y.ed.del), .string (B y.ed.ins), .int .i64 y.ahead, .int .i64 y.behind] 89)))
                generalize Wc.heap.size = g7 at *
                generalize Wc.alloc (.cells #[.int .i64 y.ed.pos, .string (B y.ed.del), .string (B y.ed.ins), .int .i64 y.ahead, .int .i64 y.behind] 89) = Wc at *
                refine hK.out _ _ (fun _ => HX.out.y.loads) ?_
                clear hK K
                try simp only [Act.put, List.setIfInBounds_toArray, List.set_cons_zero, List.set_cons_succ]
                refine wpAnyK_ready (rs := [2]) (by kernel_rfl) (by simp) ?_
                refine AllReadyK.cons (i := 2) rfl (fun K hK => ?_) ?_
                · have hbz := HX.out.b.size
                  (refine step_append_src _ rfl (.tmp 198) (.tmp 199) _ rfl W4.heap.size 89 i5 _ 5 56 Try.underlying87 hi5 hz50 hz51 hz52 rfl (by decide) _ 0 [] rfl HO.out _ dl.length (dl.flatMap Stp.cells) rfl (by rw [stp_flat]) (HX.out.x.src stp_len) stp_one (by unfold maxLen; omega) (by omega) (by first | (simp; done) | omega | (simp; omega)) ?_; intro v3 w3 hown3 hg3 hat3 hty3; have HTY3 := Lib.hid hty3; clear hty3)
                  have HX := Lib.hid (HX.out.app hg3)
                  try have H7 := Lib.hid (H7.out.keeps hg3 (fun hf => hne (Option.some.inj hf.1).symm))
                  have HO := Lib.hid hown3
                  clear hown3 hg3 hat3 hbz
                  obtain ⟨Wc, rfl⟩ : ∃ W, W = w3 := ⟨_, rfl⟩
                  refine hK.out _ _ (fun _ => HX.out.y.loads) ?_
                  clear hK K
                  try simp only [Act.put, List.setIfInBounds_toArray, List.set_cons_zero, List.set_cons_succ]
                  refine wpAnyK_ready (rs := [5]) (by kernel_rfl) (by simp) ?_
                  refine AllReadyK.cons (i := 5) rfl (fun K hK => ?_) ?_
                  · have hbz := HX.out.b.size
                    (refine step_append_src _ rfl (.tmp 200) (.tmp 202) _ rfl W4.heap.size 89 i5 _ 5 56 Try.underlying87 hi5 hz50 hz51 hz52 rfl (by decide) _ (0 + dl.length) ([] ++ dl.flatMap Stp.cells) rfl HO.out _ 1 (Stp.cells y) rfl rfl H7.out.src (by simp [Stp.cells, Value.oneCell']) (by unfold maxLen; omega) (by omega) (by first | (simp; done) | omega | (simp; omega)) ?_; intro v8 w8 hown8 hg8 hat8 hty8; have HTY8 := Lib.hid hty8; clear hty8)
                    have HX8 := Lib.hid (HX.out.app hg8)
                    obtain ⟨g8, o8, c8, rfl, q1, q2, hsl, hg8x, hbl⟩ := HX.out.done hown8 hg8
                    have HSL := Lib.hid hsl
                    have HBL := Lib.hid hbl
                    clear hown8 hg8 hat8 hsl hbl HX hbz
                    have HX := HX8
                    refine hK.out _ _ (fun _ => HX.out.y.loads) ?_
                    clear hK K
                    try simp only [Act.put, List.setIfInBounds_toArray, List.set_cons_zero, List.set_cons_succ]
                    refine wpAnyK_take2 (i := 6) (some 6) (v := ?v6_4k4) rfl rfl (by kernel_rfl) (by kernel_rfl) (by kernel_rfl) (by kernel_rfl) (fun _ _ _ h => h) (Or.inl ⟨by rfl, ?y6_4k4⟩) (fun _ => HX.out.y.loads) ?r6_4k4
                    case y6_4k4 =>
                      intro w hSw
                      go_simp
                      try with_reducible rfl
                    try simp only [Act.put, List.setIfInBounds_toArray, List.set_cons_zero, List.set_cons_succ]
                    refine wpAnyK_done (by kernel_rfl) ?_ _
                    clear HX HO H7
                    have hrl : ul.length - 1 = r.length := by have := HR.out; omega
                    obtain ⟨gu', ou', eu, hf⟩ := HI0.out.redone HUL.out HJ2.out HK2.out (below_then HB4.out HBL.out) HSL.out ⟨Nat.le_trans HB4.out.size hg8x.1, hg8x.2⟩
                    injection eu with eu
                    cases eu
                    by_cases hcu : cu = 1
                    · subst hcu
                      rw [if_pos rfl] at hf
                      have HF : Hid (PlI w w8 jb lv (.slice (some ⟨g8, o8, none⟩) (dl.length + 1) c8) (.slice (some ⟨gu, ou, none⟩) r.length 0) mo (dl ++ [y]) r (k + 1)) := hf
                      clear hf
                      go_wp2_with fail
                      go_meet
                      exact ⟨_, _, _, HF.out⟩
                    · rw [if_neg hcu] at hf
                      have HF := Lib.hid hf
                      clear hf
                      go_wp2_with fail
                      go_meet
                      exact ⟨_, _, _, HF.out⟩
                  exact AllReadyK.nil
                exact AllReadyK.nil
              exact AllReadyK.nil
            refine AllReadyK.cons (i := 4) rfl (fun K hK => ?_) ?_
            · refine step_build1 (.tmp 201) _ _ rfl rfl rfl (build_stp _ y) ?_
              have HX := Lib.hid (HX.out.below (below_alloc (Below.refl _ _) (.cells #[.int .i64 y.ed.pos, .string (B y.ed.del), .string (B y.ed.ins), .int .i64 y.ahead, .int .i64 y.behind] 89)))
              have H7 := Lib.hid (StpBox.new Wc y 89)
              try have hne : Wc.heap.size ≠ g0 := by have := HO.out.lt g0 rfl; omega
              try have HO := Lib.hid (HO.out.below (below_alloc (Below.refl _ _) (.cells #[.int .i64 y.ed.pos, .string (B y.ed.del), .string (B y.ed.ins), .int .i64 y.ahead, .int .i64 y.behind] 89)))
              generalize Wc.heap.size = g7 at *
              generalize Wc.alloc (.cells #[.int .i64 y.ed.pos, .string (B y.ed.del), .string (B y.ed.ins), .int .i64 y.ahead, .int .i64 y.behind] 89) = Wc at *
              refine hK.out _ _ (fun _ => HX.out.y.loads) ?_
              clear hK K
              try simp only [Act.put, List.setIfInBounds_toArray, List.set_cons_zero, List.set_cons_succ]
              refine wpAnyK_ready (rs := [0]) (by kernel_rfl) (by simp) ?_
              refine AllReadyK.cons (i := 0) rfl (fun K hK => ?_) ?_
              · refine step_build0 _ rfl rfl (build_stp0 _) ?_
                have HX := Lib.hid (HX.out.below (below_alloc (Below.refl _ _) (.cells #[] 89)))
                have HO : Hid (Own (Wc.alloc (.cells #[] 89)) W4.heap.size 5 (.slice (some ⟨Wc.heap.size, 0, none⟩) 0 0) 0 []) := Own.none_ _ _ _ _ _ (by simp)
                try have hne : g7 ≠ Wc.heap.size := by have := H7.out.lt; omega
                try have H7 := Lib.hid (H7.out.below (below_alloc (Below.refl _ _) (.cells #[] 89)))
                generalize Wc.heap.size = g0 at *
                generalize Wc.alloc (.cells #[] 89) = Wc at *
                refine hK.out _ _ (fun _ => HX.out.y.loads) ?_
                clear hK K
                try simp only [Act.put, List.setIfInBounds_toArray, List.set_cons_zero, List.set_cons_succ]
                refine wpAnyK_ready (rs := [2]) (by kernel_rfl) (by simp) ?_
                refine AllReadyK.cons (i := 2) rfl (fun K hK => ?_) ?_
                · have hbz := HX.out.b.size
                  (refine step_append_src _ rfl (.tmp 198) (.tmp 199) _ rfl W4.heap.size 89 i5 _ 5 56 Try.underlying87 hi5 hz50 hz51 hz52 rfl (by decide) _ 0 [] rfl HO.out _ dl.length (dl.flatMap Stp.cells) rfl (by rw [stp_flat]) (HX.out.x.src stp_len) stp_one (by unfold maxLen; omega) (by omega) (by first | (simp; done) | omega | (simp; omega)) ?_; intro v3 w3 hown3 hg3 hat3 hty3; have HTY3 := Lib.hid hty3; clear hty3)
                  have HX := Lib.hid (HX.out.app hg3)
                  try have H7 := Lib.hid (H7.out.keeps hg3 (fun hf => hne (Option.some.inj hf.1).symm))
                  have HO := Lib.hid hown3
                  clear hown3 hg3 hat3 hbz
                  obtain ⟨Wc, rfl⟩ : ∃ W, W = w3 := ⟨_, rfl⟩
                  refine hK.out _ _ (fun _ => HX.out.y.loads) ?_
                  clear hK K
                  try simp only [Act.put, List.setIfInBounds_toArray, List.set_cons_zero, List.set_cons_succ]
                  refine wpAnyK_ready (rs := [5]) (by kernel_rfl) (by simp) ?_
                  refine AllReadyK.cons (i := 5) rfl (fun K hK => ?_) ?_
                  · have hbz := HX.out.b.size
                    (refine step_append_src _ rfl (.tmp 200) (.tmp 202) _ rfl W4.heap.size 89 i5 _ 5 56 Try.underlying87 hi5 hz50 hz51 hz52 rfl (by decide) _ (0 + dl.length) ([] ++ dl.flatMap Stp.cells) rfl HO.out _ 1 (Stp.cells y) rfl rfl H7.out.src (by simp [Stp.cells, Value.oneCell']) (by unfold maxLen; omega) (by omega) (by first | (simp; done) | omega | (simp; omega)) ?_; intro v8 w8 hown8 hg8 hat8 hty8; have HTY8 := Lib.hid hty8; clear hty8)
                    have HX8 := Lib.hid (HX.out.app hg8)
                    obtain ⟨g8, o8, c8, rfl, q1, q2, hsl, hg8x, hbl⟩ := HX.out.done hown8 hg8
                    have HSL := Lib.hid hsl
                    have HBL := Lib.hid hbl
                    clear hown8 hg8 hat8 hsl hbl HX hbz
                    have HX := HX8
                    refine hK.out _ _ (fun _ => HX.out.y.loads) ?_
                    clear hK K
                    try simp only [Act.put, List.setIfInBounds_toArray, List.set_cons_zero, List.set_cons_succ]
                    refine wpAnyK_take2 (i := 6) (some 6) (v := ?v6_5k4) rfl rfl (by kernel_rfl) (by kernel_rfl) (by kernel_rfl) (by kernel_rfl) (fun _ _ _ h => h) (Or.inl ⟨by rfl, ?y6_5k4⟩) (fun _ => HX.out.y.loads) ?r6_5k4
                    case y6_5k4 =>
                      intro w hSw
                      go_simp
                      try with_reducible rfl
                    try simp only [Act.put, List.setIfInBounds_toArray, List.set_cons_zero, List.set_cons_succ]
                    refine wpAnyK_done (by kernel_rfl) ?_ _
                    clear HX HO H7
                    have hrl : ul.length - 1 = r.length := by have := HR.out; omega
                    obtain ⟨gu', ou', eu, hf⟩ := HI0.out.redone HUL.out HJ2.out HK2.out (below_then HB4.out HBL.out) HSL.out ⟨Nat.le_trans HB4.out.size hg8x.1, hg8x.2⟩
                    injection eu with eu
                    cases eu
                    by_cases hcu : cu = 1
                    · subst hcu
                      rw [if_pos rfl] at hf
                      have HF : Hid (PlI w w8 jb lv (.slice (some ⟨g8, o8, none⟩) (dl.length + 1) c8) (.slice (some ⟨gu, ou, none⟩) r.length 0) mo (dl ++ [y]) r (k + 1)) := hf
                      clear hf
                      go_wp2_with fail
                      go_meet
                      exact ⟨_, _, _, HF.out⟩
                    · rw [if_neg hcu] at hf
                      have HF := Lib.hid hf
                      clear hf
                      go_wp2_with fail
                      go_meet
                      exact ⟨_, _, _, HF.out⟩
                  exact AllReadyK.nil
                exact AllReadyK.nil
              exact AllReadyK.nil
            exact AllReadyK.nil
      · as_aux_lemma =>
          have z0 : (kind == 0) = false := by simpa using n0
          have z1 : (kind == 1) = false := by simpa using n1
          have z2 : (kind == 2) = false := by simpa using n2
          have z3 : (kind == 3) = false := by simpa using n3
          have z4 : (kind == 4) = false := by simpa using n4
          clear n0 n1 n2 n3 n4
          have HN := Lib.hid HI0.out.next
          go_wp2
          go_meet
          exact ⟨_, _, _, HN.out⟩
    case rest =>
      clear f0 f1 f2 f3 f4 f5 HC HI
      obtain ⟨lv', dl', ul', HJ⟩ := hcut
      obtain ⟨Ad', cd', rfl, -⟩ := HJ.out.d
      obtain ⟨Au', cu', rfl, -⟩ := HJ.out.u
      go_wp2_with (first
        | (go_at_call 57; refine (done_any _ _ _ _ _ _ _ HJ.out.j (by have := HJ.out.len; simp; omega)).mono ?_; rintro e w5 ⟨v5, rfl, ho5, hb5⟩; rw [List.take_left'  (rfl : dl'.length = dl'.length)] at ho5; have HD := Lib.hid (ho5.sl stp_len rfl); have HJ := Lib.hid (HJ.out.below hb5); obtain ⟨A5, c5, rfl, _⟩ := ho5.form0; clear ho5 hb5)
        | (go_at_call 58; refine (undone_any _ _ _ _ _ _ _ HJ.out.j (by have := HJ.out.len; simp; omega)).mono ?_; rintro e w6 ⟨v6, rfl, ho6, hb6⟩; rw [List.drop_left' (rfl : dl'.length = dl'.length)] at ho6; have HU := Lib.hid (ho6.sl stp_len rfl); have HJ := Lib.hid (HJ.out.below hb6); obtain ⟨A6, c6, rfl, _⟩ := ho6.form0; clear ho6 hb6)
        | (go_at_call 56; refine (same_eq ul' _ _ _ HU.out HJ.out.u).mono ?_; rintro e w7 ⟨rfl, hb7⟩; have HJ := Lib.hid (HJ.out.below hb7); clear hb7)
        | (go_at_call 56; refine (same_eq dl' _ _ _ HD.out HJ.out.d).mono ?_; rintro e w7 ⟨rfl, hb7⟩; have HJ := Lib.hid (HJ.out.below hb7); clear hb7))
      go_roundw
      case rel => exact ⟨k + 1, lv', dl', ul', _, _, by omega, rfl, rfl, by go_num, HJ.out⟩
      case measure => simp [intOf]; omega
end Go.Proofs.Ytkinjjgaecbogaa.undoPlays
