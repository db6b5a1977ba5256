/-
  The walk of the law TablesPlay: it returns true, whatever its arguments. Conditions: none (arguments as the row reads them).
-/
import Derived.Test.YtkllgikmlgponaaTab20
import Derived.Test.YtkllgikmlgponaaTab4
import Derived.Test.YtkllgikmlgponaaKeyed2
namespace Go.Proofs.Ytkllgikmlgponaa.tablesPlay
open Go.ChangeShapes Go.WideShapes Go.Deep Go.ChangeAt Go.RowKit Tab
set_option maxRecDepth 100000
set_option maxHeartbeats 12800000 in
theorem walk {H : Type} (enc : TypeId × Value → H) (w : World) (base : Nat) {v0 v1 : Value} {d0 d1 : DataW H} {p0 p1 : List MemPlace}
    (h0 : DataW.Trod enc Try.prog w 0 (fun _ => true) true 3 v0 d0 p0) (k0 : Value.okWide Try.prog w .any base 3 v0)
    (h1 : DataW.Trod enc Try.prog w 0 (fun _ => true) true 38 v1 d1 p1) (k1 : Value.okWide Try.prog w .any base 38 v1) :
    Calls Try.prog 5 #[v0, v1] w fun e w' => e = .returned (.bool true) ∧ Below w.heap.size w w' := by
  obtain ⟨kind, rfl, hk1, hk2⟩ := open_num h0 k0
  obtain ⟨l, hv, -, hxl⟩ := open_sl TAct.cells TAct.Ok Try.underlying38 tAct_cells (by omega) tAct_dec h1 k1
  clear h0 k0 h1 k1
  have HAW := Lib.hid fun w => awake19_any w
  obtain ⟨A, c, rfl, hc1, hc2, hn, hA⟩ := hv
  have HA := Lib.hid hA
  clear hA hn
  by_cases l1 : 40 < l.length
  · go_enter Try.func5, Try.ntmps5
    go_wp2_with (go_at_call 10; refine (HAW.out _).mono ?_; rintro e w' ⟨rfl, hb⟩; obtain ⟨g, rfl⟩ := to_grow hb; clear hb)
    go_ret
    exact ⟨rfl, by (repeat (first | with_reducible exact Below.refl _ _ | with_reducible assumption | with_reducible refine below_alloc ?_ _ | with_reducible refine below_grow ?_ _ | with_reducible refine below_drewN ?_ _ | with_reducible refine below_drew ?_ | with_reducible refine below_setCell ?_ (by first | (dsimp only; omega) | (simp; done) | (simp; omega)) _))⟩
  have c1 := no (show ¬ (40 : Int) < (l.length : Int) by omega)
  have hl40 : l.length ≤ 40 := by omega
  clear l1
  by_cases hbad : kind < 1 ∨ 4 < kind
  · have HNB := Lib.hid fun W => new_bad kind W hbad
    by_cases h3 : kind < 1
    · clear hbad
      go_enter Try.func5, Try.ntmps5
      go_wp2_with (first | (go_at_call 10; refine (HAW.out _).mono ?_; rintro e w' ⟨rfl, hb⟩; obtain ⟨g, rfl⟩ := to_grow hb; clear hb) | (go_at_call 18; refine (HNB.out _).mono ?_; rintro e w' ⟨rfl, rfl⟩))
      go_ret
      exact ⟨rfl, by (repeat (first | with_reducible exact Below.refl _ _ | with_reducible assumption | with_reducible refine below_alloc ?_ _ | with_reducible refine below_grow ?_ _ | with_reducible refine below_drewN ?_ _ | with_reducible refine below_drew ?_ | with_reducible refine below_setCell ?_ (by first | (dsimp only; omega) | (simp; done) | (simp; omega)) _))⟩
    · have h4 : 4 < kind := by omega
      have h5 := no h3
      clear hbad h3
      go_enter Try.func5, Try.ntmps5
      go_wp2_with (first | (go_at_call 10; refine (HAW.out _).mono ?_; rintro e w' ⟨rfl, hb⟩; obtain ⟨g, rfl⟩ := to_grow hb; clear hb) | (go_at_call 18; refine (HNB.out _).mono ?_; rintro e w' ⟨rfl, rfl⟩))
      go_ret
      exact ⟨rfl, by (repeat (first | with_reducible exact Below.refl _ _ | with_reducible assumption | with_reducible refine below_alloc ?_ _ | with_reducible refine below_grow ?_ _ | with_reducible refine below_drewN ?_ _ | with_reducible refine below_drew ?_ | with_reducible refine below_setCell ?_ (by first | (dsimp only; omega) | (simp; done) | (simp; omega)) _))⟩
  have h3 := no (show ¬ kind < 1 by omega)
  have h4 := no (show ¬ 4 < kind by omega)
  have HNW := Lib.hid fun W => new_ok kind W (by omega) (by omega)
  clear hbad
  go_enter Try.func5, Try.ntmps5
  go_wp2_with (first
    | (go_at_call 10; refine (HAW.out _).mono ?_; rintro e w1 ⟨rfl, hb⟩; have HB0 := Lib.hid hb; clear hb)
    | (go_at_call 18; refine (HNW.out _).mono ?_; rintro e w2 ⟨rfl, ht, hb⟩; have HP : Hid (PlayI w1 w2 w1.heap.size kind (.slice none 0 0) (.slice none 0 0) [] 0) := ⟨ht, Own.nil _ _ _, (fun j h => by cases h), Nat.le_refl _, hb⟩; clear ht hb))
  generalize htb : w1.heap.size = tb at *
  go_loopw [6, 7] (fun o i w' => ∃ (k : Nat) (u lv : Value) (xs : List Ent), u = o ∧ k ≤ l.length ∧ i = .int .i64 k ∧ Hid (PlayI w1 w' tb kind lv u xs k)) (fun _ i _ => l.length - (intOf i).toNat)
  case atStart => exact ⟨0, _, _, [], rfl, by omega, rfl, HP.out⟩
  case round =>
    clear HP
    obtain ⟨k, u, lv, xs, rfl, hk, rfl, HP⟩ := hrel
    by_cases hlt : k < l.length
    rotate_left
    · have d0 := no hlt
      have HB := Lib.hid (below_then HB0.out HP.out.b)
      clear hlt
      go_wp2
      go_ret
      exact ⟨rfl, HB.out⟩
    obtain ⟨b, off, rfl, hb, hc⟩ := HA.out (by omega)
    obtain ⟨x, hxm⟩ := get_some hlt
    have HC : Hid (∀ W, Below w1.heap.size w1 W → W.cell? ⟨b, off + k * 3, none⟩ = some (.int .i64 x.kind) ∧ W.cell? ⟨b, off + k * 3 + 1, none⟩ = some (.string (B x.name)) ∧ W.cell? ⟨b, off + k * 3 + 2, none⟩ = some (.string (B x.val)) ∧ b < W.heap.size) := fun W hW => by
      have hw := below_then HB0.out hW
      exact ⟨(hw.cell (p := ⟨b, off + k * 3, none⟩) hb).trans (by have := hc k _ hxm 0 _ rfl; simpa using this), (hw.cell (p := ⟨b, off + k * 3 + 1, none⟩) hb).trans (hc k _ hxm 1 _ rfl), (hw.cell (p := ⟨b, off + k * 3 + 2, none⟩) hb).trans (hc k _ hxm 2 _ rfl), Nat.lt_of_lt_of_le hb hw.size⟩
    obtain ⟨e0, e1, e2, e3⟩ := HC.out _ HP.out.b
    haveI : Old wr b := ⟨e3⟩
    have k0 : (0 : Int) ≤ (k : Int) := by omega
    have k1 : (k : Int) < (l.length : Int) := by omega
    clear hc hxm
    by_cases n1 : 100 < x.name.length
    · have HB := Lib.hid (below_then HB0.out HP.out.b)
      go_wp2
      go_ret
      exact ⟨rfl, HB.out⟩
    have q1 := no (show ¬ (100 : Int) < (x.name.length : Int) by omega)
    by_cases n2 : 100 < x.val.length
    · have HB := Lib.hid (below_then HB0.out HP.out.b)
      clear n1
      go_wp2
      go_ret
      exact ⟨rfl, HB.out⟩
    have q2 := no (show ¬ (100 : Int) < (x.val.length : Int) by omega)
    obtain ⟨kd, s, v⟩ := x
    dsimp only at e0 e1 e2 HC q1 q2 n1 n2
    have hn := HP.out.n
    have hrs := HP.out.t.r
    have HGE := Lib.hid fun W (hW : Below wr.heap.size wr W) => refGet_any xs u s W ((HP.out.o.below hW).sl ent_len rfl) (by omega)
    rw [getP_eq hrs] at HGE
    have hsl : s.length ≤ 1073741824 := by omega
    have hvl : v.length ≤ 65536 := by omega
    clear n1 n2
    have hq : (there xs s = true ∧ (if there xs s = true then (1 : Int) else 0) = 1) ∨ (there xs s = false ∧ (if there xs s = true then (1 : Int) else 0) = 0) := by cases there xs s <;> simp
    generalize (if there xs s = true then (1 : Int) else 0) = q at *
    go_upto_block 2 with (go_at_call 16; refine (HGE.out _ (Below.refl _ _)).mono ?_; rintro e w3 ⟨rfl, rfl⟩)
    go_cut [6] (fun s6 wx => ∃ (lv' : Value) (xs' : List Ent), Hid (PlayI w1 wx tb kind lv' s6 xs' (k + 1)))
    case first =>
      clear HGE
      have hwz := HP.out.b.size
      have hkd : kd = 0 ∨ kd = 1 ∨ (kd ≠ 0 ∧ kd ≠ 1) := by omega
      rcases hkd with rfl | rfl | ⟨m0, m1⟩
      · as_aux_lemma =>
          have HRS := Lib.hid fun W (hW : Below wr.heap.size wr W) => refSet_all kind xs u s v w1.heap.size W (HP.out.old hW) (by have := hW.size; omega) hrs (by omega) hsl hvl
          have HST := Lib.hid fun W (h : TabAt W w1.heap.size tb lv kind xs) => set_all W w1.heap.size tb lv kind xs s v h hsl hvl (by omega)
          have hsn := setE_len kind xs s v
          generalize setE kind xs s v = ys at *
          generalize setN kind s = r at *
          clear hq
          go_wp2_with fail
          (refine wp_region_grow_mid 12 (by kernel_rfl) (by kernel_rfl) rfl ?_; simp only [List.take_succ_cons, List.take_zero, List.drop_succ_cons, List.drop_zero]; (repeat (go_big_quiet_step (fail))); refine wpQuiet_nil ?_; intro _ hw'; obtain ⟨gq, hw''⟩ := hw'; subst hw''; intro K hK; go_simp; ((go_at_call 19; refine (HRS.out _ (grow_below _ _)).mono ?_; rintro e w4 ⟨v4, rfl, ho4, hv4, hb4⟩; have HM := Lib.hid ((HP.out.below (grow_below _ _)).set hsn ho4 hv4 hb4); clear ho4 hv4 hb4)); refine hK.out _ _ ?_; clear hK K; (repeat (go_big_quiet_step (fail))); refine wpQuiet_nil ?_; intro _ hw'; obtain ⟨gq2, hw''⟩ := hw'; subst hw'')
          have HM4 := Lib.hid (HM.out.below (grow_below w4 gq2))
          generalize grow w4 gq2 = W4 at *
          clear HM
          obtain ⟨f0, f1, f2, f3⟩ := HC.out _ HM4.out.b
          haveI : Old W4 b := ⟨f3⟩
          go_wp2_with fail
          refine wp_region_keyed (fun W => W.cell? ⟨b, off + k * 3 + 1, none⟩ = some (.string (B s)) ∧ W.cell? ⟨b, off + k * 3 + 2, none⟩ = some (.string (B v))) [11] (by kernel_rfl) ?_
          have HM4 := Lib.hid (HM4.out.below (below_drew (Below.refl _ _)))
          generalize W4.drew = D at *
          obtain ⟨f0, f1, f2, f3⟩ := HC.out _ HM4.out.b
          haveI : Old D b := ⟨f3⟩
          refine wpAnyK_take2 (i := 0) (some 88) (v := ?v0_1z1) rfl rfl (by kernel_rfl) (by kernel_rfl) (by kernel_rfl) (by kernel_rfl) (fun _ _ _ h => h) (Or.inl ⟨by rfl, ?y0_1z1⟩) (fun _ => ⟨f1, f2⟩) ?r0_1z1
          case y0_1z1 =>
            intro w hSw
            go_simp
            try with_reducible rfl
          try simp only [Act.put, List.setIfInBounds_toArray, List.set_cons_zero, List.set_cons_succ]
          refine wpAnyK_take2 (i := 1) (some 89) (v := ?v1_2z1) rfl rfl (by kernel_rfl) (by kernel_rfl) (by kernel_rfl) (by kernel_rfl) (fun _ _ _ h => h) (Or.inl ⟨by rfl, ?y1_2z1⟩) (fun _ => ⟨f1, f2⟩) ?r1_2z1
          case y1_2z1 =>
            intro w hSw
            go_simp
            try with_reducible rfl
          try simp only [Act.put, List.setIfInBounds_toArray, List.set_cons_zero, List.set_cons_succ]
          refine wpAnyK_take2 (i := 2) (some 90) (v := ?v2_3z1) rfl rfl (by kernel_rfl) (by kernel_rfl) (by kernel_rfl) (by kernel_rfl) (fun _ _ _ h => h) (Or.inl ⟨by rfl, ?y2_3z1⟩) (fun _ => ⟨f1, f2⟩) ?r2_3z1
          case y2_3z1 =>
            intro w hSw
            go_simp
            try with_reducible rfl
          try simp only [Act.put, List.setIfInBounds_toArray, List.set_cons_zero, List.set_cons_succ]
          refine wpAnyK_take2 (i := 3) (some 91) (v := ?v3_4z1) rfl rfl (by kernel_rfl) (by kernel_rfl) (by kernel_rfl) (by kernel_rfl) (fun _ _ _ h => h) (Or.inl ⟨by rfl, ?y3_4z1⟩) (fun _ => ⟨f1, f2⟩) ?r3_4z1
          case y3_4z1 =>
            intro w hSw
            go_simp
            try with_reducible rfl
          try simp only [Act.put, List.setIfInBounds_toArray, List.set_cons_zero, List.set_cons_succ]
          refine wpAnyK_take2 (i := 4) (some 92) (v := ?v4_5z1) rfl rfl (by kernel_rfl) (by kernel_rfl) (by kernel_rfl) (by kernel_rfl) (fun _ _ _ h => h) (Or.inl ⟨by rfl, ?y4_5z1⟩) (fun _ => ⟨f1, f2⟩) ?r4_5z1
          case y4_5z1 =>
            intro w hSw
            go_simp
            try with_reducible rfl
          try simp only [Act.put, List.setIfInBounds_toArray, List.set_cons_zero, List.set_cons_succ]
          refine wpAnyK_load2 (i := 5) [11, 13] (some 93) (v := ?v5_6z1) rfl rfl (by kernel_rfl) (by kernel_rfl) (by kernel_rfl) (by kernel_rfl) (by kernel_rfl) (fun _ _ _ h => h) (Or.inl ⟨by rfl, ?y5_6z1⟩) (fun _ => ⟨f1, f2⟩) ?r5_6z1
          case y5_6z1 =>
            intro w hSw
            (try dsimp only at hSw)
            go_split_ands
            go_simp
            try with_reducible rfl
          try simp only [Act.put, List.setIfInBounds_toArray, List.set_cons_zero, List.set_cons_succ]
          refine wpAnyK_take2 (i := 6) (some 94) (v := ?v6_7z1) rfl rfl (by kernel_rfl) (by kernel_rfl) (by kernel_rfl) (by kernel_rfl) (fun _ _ _ h => h) (Or.inl ⟨by rfl, ?y6_7z1⟩) (fun _ => ⟨f1, f2⟩) ?r6_7z1
          case y6_7z1 =>
            intro w hSw
            go_simp
            try with_reducible rfl
          try simp only [Act.put, List.setIfInBounds_toArray, List.set_cons_zero, List.set_cons_succ]
          refine wpAnyK_take2 (i := 7) (some 95) (v := ?v7_8z1) rfl rfl (by kernel_rfl) (by kernel_rfl) (by kernel_rfl) (by kernel_rfl) (fun _ _ _ h => h) (Or.inl ⟨by rfl, ?y7_8z1⟩) (fun _ => ⟨f1, f2⟩) ?r7_8z1
          case y7_8z1 =>
            intro w hSw
            go_simp
            try with_reducible rfl
          try simp only [Act.put, List.setIfInBounds_toArray, List.set_cons_zero, List.set_cons_succ]
          refine wpAnyK_take2 (i := 8) (some 96) (v := ?v8_9z1) rfl rfl (by kernel_rfl) (by kernel_rfl) (by kernel_rfl) (by kernel_rfl) (fun _ _ _ h => h) (Or.inl ⟨by rfl, ?y8_9z1⟩) (fun _ => ⟨f1, f2⟩) ?r8_9z1
          case y8_9z1 =>
            intro w hSw
            go_simp
            try with_reducible rfl
          try simp only [Act.put, List.setIfInBounds_toArray, List.set_cons_zero, List.set_cons_succ]
          refine wpAnyK_take2 (i := 9) (some 97) (v := ?v9_10z1) rfl rfl (by kernel_rfl) (by kernel_rfl) (by kernel_rfl) (by kernel_rfl) (fun _ _ _ h => h) (Or.inl ⟨by rfl, ?y9_10z1⟩) (fun _ => ⟨f1, f2⟩) ?r9_10z1
          case y9_10z1 =>
            intro w hSw
            go_simp
            try with_reducible rfl
          try simp only [Act.put, List.setIfInBounds_toArray, List.set_cons_zero, List.set_cons_succ]
          refine wpAnyK_load2 (i := 10) [11, 13] (some 98) (v := ?v10_11z1) rfl rfl (by kernel_rfl) (by kernel_rfl) (by kernel_rfl) (by kernel_rfl) (by kernel_rfl) (fun _ _ _ h => h) (Or.inl ⟨by rfl, ?y10_11z1⟩) (fun _ => ⟨f1, f2⟩) ?r10_11z1
          case y10_11z1 =>
            intro w hSw
            (try dsimp only at hSw)
            go_split_ands
            go_simp
            try with_reducible rfl
          try simp only [Act.put, List.setIfInBounds_toArray, List.set_cons_zero, List.set_cons_succ]
          refine wpAnyK_take2 (i := 12) (some 100) (v := ?v12_12z1) rfl rfl (by kernel_rfl) (by kernel_rfl) (by kernel_rfl) (by kernel_rfl) (fun _ _ _ h => h) (Or.inl ⟨by rfl, ?y12_12z1⟩) (fun _ => ⟨f1, f2⟩) ?r12_12z1
          case y12_12z1 =>
            intro w hSw
            go_simp
            try with_reducible rfl
          try simp only [Act.put, List.setIfInBounds_toArray, List.set_cons_zero, List.set_cons_succ]
          refine wpAnyK_ready (rs := [11]) (by kernel_rfl) (by simp) ?_
          refine AllReadyK.cons (i := 11) rfl (fun K hK => ?_) ?_
          · go_simp
            go_at_call 20
            refine (HST.out D HM4.out.t).mono ?_
            rintro e w5 ⟨rfl, ⟨lv5, ht5, ha5⟩, hk5⟩
            have HP5 := Lib.hid (HM4.out.set ht5 ha5 hk5)
            clear ht5 ha5 hk5
            dsimp only
            refine hK.out _ _ (fun h => Bool.noConfusion ((show unl _ _ = false by kernel_rfl).symm.trans h)) ?_
            clear hK K
            try simp only [Act.put, List.setIfInBounds_toArray, List.set_cons_zero, List.set_cons_succ]
            refine wpAnyK_take2 (i := 13) (some 101) (v := ?v13_13z1) rfl rfl (by kernel_rfl) (by kernel_rfl) (by kernel_rfl) (by kernel_rfl) (fun _ _ _ h => h) (Or.inl ⟨by rfl, ?y13_13z1⟩) (fun h => Bool.noConfusion ((show unl _ _ = false by kernel_rfl).symm.trans h)) ?r13_13z1
            case y13_13z1 =>
              intro w hSw
              go_simp
              try with_reducible rfl
            try simp only [Act.put, List.setIfInBounds_toArray, List.set_cons_zero, List.set_cons_succ]
            refine wpAnyK_done (by kernel_rfl) ?_ _
            go_wp2_with fail
            go_meet
            exact ⟨lv5, ys, HP5.out⟩
          exact AllReadyK.nil
      · as_aux_lemma =>
          have hbe := butL_eq hrs s
          rcases hq with ⟨ht, rfl⟩ | ⟨ht, rfl⟩
          · have HUY := Lib.hid (unset_yes wr w1.heap.size tb lv kind xs s HP.out.t (by omega) ht)
            rw [ht, if_pos rfl] at hbe
            have HRU := Lib.hid fun W (hW : Own W w1.heap.size 2 u xs.length (xs.flatMap Ent.cells)) => refUnset_any xs u s W (hW.sl ent_len rfl) (by omega)
            rw [hbe] at HRU
            have hcl := cutL_len (there_lt ht)
            generalize cutL xs (place xs s) = ys at *
            clear ht hbe
            go_wp2_with (first
              | (go_at_call 21; refine HUY.out.mono ?_; rintro e w4 ⟨rfl, ⟨lv4, ht4, ha4⟩, hk4⟩; have HT4 := Lib.hid ht4; have HK4 := Lib.hid hk4; obtain ⟨f0, f1, f2, f3⟩ := HC.out w4 (below_keeps HP.out.b hk4 (fun j hF => hF.elim (fun e => by omega) (·.2))); haveI : Old w4 b := ⟨f3⟩; clear ht4 ha4 hk4)
              | (go_at_call 22; refine (HRU.out _ (HP.out.kept HK4.out)).mono ?_; rintro e w5 ⟨v5, rfl, ho5, hd5, hb5⟩; have HP5 := Lib.hid (HP.out.unset (by omega) HT4.out HK4.out ho5 hd5 hb5); clear ho5 hd5 hb5))
            go_meet
            exact ⟨lv4, ys, HP5.out⟩
          · have HUN := Lib.hid fun W (hW : Below wr.heap.size wr W) => unset_no W w1.heap.size tb lv kind xs s (HP.out.t.below hW) (by omega) ht
            rw [ht, if_neg (by simp)] at hbe
            have HRU := Lib.hid fun W (hW : Own W w1.heap.size 2 u xs.length (xs.flatMap Ent.cells)) => refUnset_any xs u s W (hW.sl ent_len rfl) (by omega)
            rw [hbe] at HRU
            clear ht hbe
            go_wp2_with (first
              | (go_at_call 21; (with_reducible refine (HUN.out _ (Below.refl _ _)).mono ?_); rintro e w4 ⟨rfl, hb4⟩; have HB4 := Lib.hid hb4; obtain ⟨f0, f1, f2, f3⟩ := HC.out w4 (below_then HP.out.b hb4); haveI : Old w4 b := ⟨f3⟩; clear hb4)
              | (go_at_call 21; (with_reducible refine (HUN.out _ HB4.out).mono ?_); rintro e w5 ⟨rfl, hb5⟩; have HB5 := Lib.hid (below_then HB4.out hb5); obtain ⟨h0, h1, h2, h3⟩ := HC.out w5 (below_then HP.out.b HB5.out); haveI : Old w5 b := ⟨h3⟩; clear hb5)
              | (go_at_call 22; refine (HRU.out _ (HP.out.o.below HB5.out)).mono ?_; rintro e w6 ⟨v6, rfl, ho6, hd6, hb6⟩; have HP6 := Lib.hid (HP.out.unset (Nat.le_refl _) (HP.out.t.below HB5.out) (Keeps.of_below HB5.out) ho6 hd6 hb6); clear ho6 hd6 hb6))
            go_meet
            exact ⟨lv, xs, HP6.out⟩
      · have m2 : (kd == 0) = false := by simpa using m0
        have m3 : (kd == 1) = false := by simpa using m1
        go_wp2_with fail
        go_meet
        exact ⟨lv, xs, HP.out.more⟩
    case rest =>
      clear HGE hq HP hrs hn e0 e1 e2 e3
      as_aux_lemma =>
          obtain ⟨lv, xs, HP⟩ := hcut
          have hn := HP.out.n
          obtain ⟨f0, f1, f2, f3⟩ := HC.out _ HP.out.b
          haveI : Old wc b := ⟨f3⟩
          have HG := Lib.hid fun W (hW : Below wc.heap.size wc W) => get_any W w1.heap.size tb lv kind xs s (HP.out.t.below hW) (by omega)
          have HGE := Lib.hid fun W (hW : Below wc.heap.size wc W) => refGet_any xs u6 s W ((HP.out.old hW).sl ent_len rfl) (by omega)
          have HRT := Lib.hid fun W (hW : Below wc.heap.size wc W) => right_yes W w1.heap.size tb lv u6 kind xs (by omega) (HP.out.t.below hW) ((HP.out.old hW).sl ent_len rfl)
          rw [getP_eq HP.out.t.r] at HGE
          have hth : (there xs s = true ∧ (if there xs s = true then (1 : Int) else 0) = 1) ∨ (there xs s = false ∧ (if there xs s = true then (1 : Int) else 0) = 0) := by cases there xs s <;> simp
          generalize (if there xs s = true then (1 : Int) else 0) = qq at *
          generalize Tab.valOf xs s = vv at *
          generalize there xs s = th at *
          rcases hth with ⟨rfl, rfl⟩ | ⟨rfl, rfl⟩
          all_goals
            go_wp2_with (first
              | (go_at_call 23; refine (HG.out _ (Below.refl _ _)).mono ?_; rintro e w4 ⟨rfl, hb4⟩; have HB4 := Lib.hid hb4; obtain ⟨h0, h1, h2, h3⟩ := HC.out w4 (below_then HP.out.b hb4); haveI : Old w4 b := ⟨h3⟩; clear hb4)
              | (go_at_call 16; refine (HGE.out _ HB4.out).mono ?_; rintro e w5 ⟨rfl, rfl⟩)
              | (go_at_call 13; refine (HRT.out _ HB4.out).mono ?_; rintro e w6 ⟨rfl, hb6⟩; have HP6 := Lib.hid (HP.out.below (below_then HB4.out hb6)); clear hb6))
            go_roundw
            case rel => exact ⟨k + 1, u6, lv, xs, rfl, by omega, by go_num, HP6.out⟩
            case measure => simp [intOf]; omega
end Go.Proofs.Ytkllgikmlgponaa.tablesPlay
