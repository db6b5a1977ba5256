/-
  The walk of the law LinesFollow: it returns true, whatever its arguments. Conditions: none (arguments as the row reads them).
-/
import Derived.Test.YtkinjjgaecbogaaLines8
import Derived.Test.YtkinjjgaecbogaaEd
import Derived.Test.YtkinjjgaecbogaaOpen
namespace Go.Proofs.Ytkinjjgaecbogaa.linesFollow
open Go.ChangeShapes Go.WideShapes Go.ChangeAt Go.RowKit
set_option maxRecDepth 100000
set_option maxHeartbeats 3200000 in
theorem walk {H : Type} (enc : TypeId × Value → H) (w : World) (base : Nat) {v0 v1 : Value} {d0 d1 : DataW H} {p0 p1 : List MemPlace}
    (h0 : DataW.Trod enc Try.prog w 0 (fun _ => true) true 9 v0 d0 p0) (k0 : Value.okWide Try.prog w .any base 9 v0)
    (h1 : DataW.Trod enc Try.prog w 0 (fun _ => true) true 76 v1 d1 p1) (k1 : Value.okWide Try.prog w .any base 76 v1) :
    Calls Try.prog 12 #[v0, v1] w fun e w' => e = .returned (.bool true) ∧ Below w.heap.size w w' := by
  obtain ⟨s, rfl, hs⟩ := open_text h0 k0
  obtain ⟨xs, hv, hok, hxl⟩ := open_sl Ed.cells Ed.Ok Try.underlying76 ed_cells (by omega) ed_dec h1 k1
  clear h0 k0 h1 k1
  obtain ⟨A, c, rfl, hc1, hc2, hn, hA⟩ := hv
  have HA := Lib.hid hA
  have HO := Lib.hid hok
  clear hA hok hn
  by_cases l1 : 200 < s.length
  · go_enter Try.func12, Try.ntmps12
    go_wp2_with (first | (go_at_call 36; refine (awake03_any _).mono ?_; rintro e w' ⟨rfl, hb⟩; obtain ⟨g, rfl⟩ := to_grow hb; clear hb))
    go_ret
    exact ⟨rfl, by (repeat (first | exact Below.refl _ _ | assumption | with_reducible refine below_alloc ?_ _ | with_reducible refine below_grow ?_ _ | with_reducible refine below_drewN ?_ _ | with_reducible refine below_drew ?_ | with_reducible refine below_setCell ?_ (by first | (dsimp only; omega) | (simp; done) | (simp; omega)) _))⟩
  by_cases l2 : 12 < xs.length
  · have l1' := no l1
    go_enter Try.func12, Try.ntmps12
    go_wp2_with (first | (go_at_call 36; refine (awake03_any _).mono ?_; rintro e w' ⟨rfl, hb⟩; obtain ⟨g, rfl⟩ := to_grow hb; clear hb))
    go_ret
    exact ⟨rfl, by (repeat (first | exact Below.refl _ _ | assumption | with_reducible refine below_alloc ?_ _ | with_reducible refine below_grow ?_ _ | with_reducible refine below_drewN ?_ _ | with_reducible refine below_drew ?_ | with_reducible refine below_setCell ?_ (by first | (dsimp only; omega) | (simp; done) | (simp; omega)) _))⟩
  have b1 : s.length ≤ 200 := by omega
  have b2 : xs.length ≤ 12 := by omega
  clear l1 l2 hs hxl hc2
  have HX0 := Lib.hid (newIdx_any s · (by omega))
  go_enter Try.func12, Try.ntmps12
  go_wp2_with (first
    | (go_at_call 36; refine (awake03_any _).mono ?_; rintro e w' ⟨rfl, hb⟩; obtain ⟨g, rfl⟩ := to_grow hb; clear hb)
    | (go_at_call 37; refine (HX0.out _).mono ?_; rintro e w1 ⟨xb, lv, rfl, hx, hb⟩; have HB1 := Lib.hid (below_then (w := w) (by (repeat (first | exact Below.refl _ _ | assumption | with_reducible refine below_alloc ?_ _ | with_reducible refine below_grow ?_ _ | with_reducible refine below_drewN ?_ _ | with_reducible refine below_drew ?_ | with_reducible refine below_setCell ?_ (by first | (dsimp only; omega) | (simp; done) | (simp; omega)) _))) hb); have hge := hx.ge; have HX1 := Lib.hid hx; clear hx hb))
  have hxw : w.heap.size ≤ xb := Nat.le_trans (by first | exact le_grow _ _ _ (Nat.le_refl _) | (simp [go_sem])) hge
  clear hge HX0
  go_loopw [0, 6] (fun u i wr => ∃ (k : Nat) (lv : Value) (t : List UInt8), k ≤ xs.length ∧ i = .int .i64 k ∧ u = .string (B t) ∧ t.length ≤ 200 + 100 * k ∧ Hid (IdxAt wr w.heap.size xb lv t.length (nls t 0)) ∧ Hid (Below w.heap.size w wr)) (fun _ i _ => xs.length - (intOf i).toNat)
  case atStart => exact ⟨0, lv, s, by omega, rfl, rfl, by omega, by
    have h := HX1.out; exact ⟨h.lt, hxw, h.c0, h.c1, h.f0, h.own.mono (by first | exact le_grow _ _ _ (Nat.le_refl _) | (simp [go_sem])), h.ne, h.up, h.lo⟩, HB1.out⟩
  case round =>
    clear HX1 HB1
    obtain ⟨k, lv, t, hk, rfl, rfl, htl, HX, HB⟩ := hrel
    by_cases hlt : k < xs.length
    · obtain ⟨b, off, rfl, hb, hc⟩ := HA.out (by omega)
      obtain ⟨x, hx⟩ := get_some hlt
      have hxm := HO.out _ (List.mem_of_getElem? hx)
      have e0 : wr.cell? ⟨b, off + k * 3, none⟩ = some (.int .i64 x.pos) := (HB.out.cell (p := ⟨b, off + k * 3, none⟩) hb).trans (hc k _ hx 0 _ rfl)
      have e1 : wr.cell? ⟨b, off + k * 3 + 1, none⟩ = some (.string (B x.del)) := (HB.out.cell (p := ⟨b, off + k * 3 + 1, none⟩) hb).trans (hc k _ hx 1 _ rfl)
      have e2 : wr.cell? ⟨b, off + k * 3 + 2, none⟩ = some (.string (B x.ins)) := (HB.out.cell (p := ⟨b, off + k * 3 + 2, none⟩) hb).trans (hc k _ hx 2 _ rfl)
      have hbr : b < wr.heap.size := Nat.lt_of_lt_of_le hb HB.out.size
      haveI : Old wr b := ⟨hbr⟩
      clear hc hx
      obtain ⟨pos, del, ins⟩ := x
      obtain ⟨o1, o2, hd, hi⟩ := hxm
      simp only at hd hi e0 e1 e2 o1 o2
      by_cases m1 : 100 < del.length
      · go_wp2
        go_ret
        exact ⟨rfl, HB.out⟩
      by_cases m2 : 100 < ins.length
      · have m1' := no m1
        go_wp2
        go_ret
        exact ⟨rfl, HB.out⟩
      have m1' := no m1
      have m2' := no m2
      have m3 : del.length ≤ 100 := by omega
      have m4 : ins.length ≤ 100 := by omega
      clear m1 m2 hd hi
      have HW := Lib.hid fun w => refWrong_any t del ins pos w (by omega) (by omega) (by omega)
      by_cases hz : wrong t pos del ins = 0
      · obtain ⟨n, rfl, hn1, hn2, hn3⟩ := wrong_zero hz
        have hpre : (t.drop n).take del.length = del := by unfold pre at hn2; simpa using hn2
        have HW' := Lib.hid fun w => show Calls Try.prog 46 #[.string (B t), Edit n del ins] w fun e w' => e = .returned (.int .i64 0) ∧ Below w.heap.size w w' from (HW.out w).mono fun e w' h => ⟨by rw [h.1, hz], h.2⟩
        have HD := Lib.hid fun w => refDo_any t del ins n w (by omega) (by omega) hn1
        have hdt : does t n del ins = t.take n ++ ins ++ t.drop (n + del.length) := by unfold does; rw [Int.toNat_natCast, List.append_assoc]
        have hdl : (t.take n ++ ins ++ t.drop (n + del.length)).length ≤ 200 + 100 * k + 100 := by simp only [List.length_append, List.length_take, List.length_drop]; omega
        rw [hdt] at HD
        have HP := Lib.hid hpre
        clear hz HW hn2 hpre hdt
        obtain ⟨t', ht'⟩ : ∃ t', t' = t.take n ++ ins ++ t.drop (n + del.length) := ⟨_, rfl⟩
        rw [← ht'] at HD hdl
        have HT := Lib.hid ht'
        clear ht'
        go_wp2_with (first
          | (go_at_call 46; refine (HW'.out _).mono ?_; rintro e w2 ⟨rfl, hb2⟩; have f0 := (hb2.cell (p := ⟨b, off + k * 3, none⟩) hbr).trans e0; have f1 := (hb2.cell (p := ⟨b, off + k * 3 + 1, none⟩) hbr).trans e1; have f2 := (hb2.cell (p := ⟨b, off + k * 3 + 2, none⟩) hbr).trans e2; have hbr2 := Nat.lt_of_lt_of_le hbr hb2.size; have HX2 := Lib.hid (HX.out.below hb2); have HB2 := Lib.hid (HB.out.trans (hb2.mono HB.out.size)); clear hb2 e0 e1 e2)
          | (go_at_call 48; refine (HD.out _).mono ?_; rintro e w3 ⟨rfl, hb3⟩; have g0 := (hb3.cell (p := ⟨b, off + k * 3, none⟩) hbr2).trans f0; have g1 := (hb3.cell (p := ⟨b, off + k * 3 + 1, none⟩) hbr2).trans f1; have g2 := (hb3.cell (p := ⟨b, off + k * 3 + 2, none⟩) hbr2).trans f2; have HX3 := Lib.hid (HX2.out.below hb3); have HB3 := Lib.hid (HB2.out.trans (hb3.mono HB2.out.size)); clear hb3 f0 f1 f2)
          | (go_at_call 47; refine (apply_yes _ _ _ _ t n del ins HX3.out (by omega) (by omega) hn1 HP.out).mono ?_; rintro e w4 ⟨rfl, ⟨lv4, hx4⟩, hk4⟩; rw [← HT.out] at hx4; have HX4 := Lib.hid hx4; have HB4 := Lib.hid (HB3.out.trans (hk4.below HB3.out.size (fun k hk => by omega))); clear hx4 hk4)
          | (go_at_call 41; refine (right_any _ _ _ _ t' HX4.out (by omega)).mono ?_; rintro e w5 ⟨rfl, hb5⟩; have HX5 := Lib.hid (HX4.out.below hb5); have HB5 := Lib.hid (HB4.out.trans (hb5.mono HB4.out.size)); clear hb5))
        go_roundw
        case rel => exact ⟨k + 1, lv4, t', by omega, by go_num, rfl, by omega, HX5.out, HB5.out⟩
        case measure => simp [intOf]; omega
      · have hz' : (wrong t pos del ins != 0) = true := by simpa using hz
        clear hz
        generalize wrong t pos del ins = z at *
        by_cases hr : pos < 0 ∨ (t.length : Int) < pos ∨ (t.length : Int) - pos < del.length
        · have HR := Lib.hid hr
          have hr' : pos < 0 ∨ (decide (pos < 0) = false ∧ (t.length : Int) < pos) ∨ (decide (pos < 0) = false ∧ decide ((t.length : Int) < pos) = false ∧ 0 ≤ pos ∧ pos ≤ 2000 ∧ (t.length : Int) - pos < del.length) := by
            by_cases h1 : pos < 0
            · exact .inl h1
            · by_cases h2 : (t.length : Int) < pos
              · exact .inr (.inl ⟨no h1, h2⟩)
              · exact .inr (.inr ⟨no h1, no h2, by omega, by omega, by omega⟩)
          clear hr
          rcases hr' with r1 | ⟨r1, r2⟩ | ⟨r1, r2, r3, r4, r5⟩
          all_goals
            (try have wz : IntKind.i64.wrap ((t.length : Int) - pos) = (t.length : Int) - pos := IntWalk.i64_in _ (by omega))
            go_wp2_with (first
              | (go_at_call 46; refine (HW.out _).mono ?_; rintro e w2 ⟨rfl, hb2⟩; have f0 := (hb2.cell (p := ⟨b, off + k * 3, none⟩) hbr).trans e0; have f1 := (hb2.cell (p := ⟨b, off + k * 3 + 1, none⟩) hbr).trans e1; have f2 := (hb2.cell (p := ⟨b, off + k * 3 + 2, none⟩) hbr).trans e2; have hbr2 := Nat.lt_of_lt_of_le hbr hb2.size; haveI : Old w2 b := ⟨hbr2⟩; have HX2 := Lib.hid (HX.out.below hb2); have HB2 := Lib.hid (HB.out.trans (hb2.mono HB.out.size)); clear hb2 e0 e1 e2))
            (refine wp_region_grow (by kernel_rfl) (by kernel_rfl) ?_; (repeat (go_big_quiet_step (fail))); refine wpQuiet_nil ?_; intro _ hw'; obtain ⟨gq, hw''⟩ := hw'; subst hw'')
            go_wp2_with (first
              | (go_at_call 47; refine (apply_no _ _ _ _ _ _ pos del ins (HX2.out.below (by (repeat (first | exact Below.refl _ _ | assumption | with_reducible refine below_alloc ?_ _ | with_reducible refine below_grow ?_ _ | with_reducible refine below_drewN ?_ _ | with_reducible refine below_drew ?_ | with_reducible refine below_setCell ?_ (by first | (dsimp only; omega) | (simp; done) | (simp; omega)) _)))) (by omega) (by omega) HR.out).mono ?_; rintro e w4 ⟨rfl, hb4⟩; have HX4 := Lib.hid ((HX2.out.below (grow_below _ _)).below hb4); have HB4 := Lib.hid (HB2.out.trans ((below_then (grow_below _ _) hb4).mono HB2.out.size)); clear hb4)
              | (go_at_call 41; refine (right_any _ _ _ _ t HX4.out (by omega)).mono ?_; rintro e w5 ⟨rfl, hb5⟩; have HX5 := Lib.hid (HX4.out.below hb5); have HB5 := Lib.hid (HB4.out.trans (hb5.mono HB4.out.size)); clear hb5))
            go_roundw
            case rel => exact ⟨k + 1, lv, t, by omega, by go_num, rfl, by omega, HX5.out, HB5.out⟩
            case measure => simp [intOf]; omega
        · have r1 : decide (pos < 0) = false := no (by omega)
          obtain ⟨n, rfl⟩ := Int.eq_ofNat_of_zero_le (show 0 ≤ pos by omega)
          have r2 : decide (t.length < n) = false := no (by omega)
          have r3 : n ≤ 2000 := by omega
          have r4 : decide ((t.length : Int) - (n : Int) < (del.length : Int)) = false := no (by omega)
          have wz : IntKind.i64.wrap ((t.length : Int) - n) = (t.length : Int) - n := IntWalk.i64_in _ (by omega)
          clear hr
          go_wp2_with (first
            | (go_at_call 46; refine (HW.out _).mono ?_; rintro e w2 ⟨rfl, hb2⟩; have f0 := (hb2.cell (p := ⟨b, off + k * 3, none⟩) hbr).trans e0; have f1 := (hb2.cell (p := ⟨b, off + k * 3 + 1, none⟩) hbr).trans e1; have f2 := (hb2.cell (p := ⟨b, off + k * 3 + 2, none⟩) hbr).trans e2; have hbr2 := Nat.lt_of_lt_of_le hbr hb2.size; haveI : Old w2 b := ⟨hbr2⟩; have HX2 := Lib.hid (HX.out.below hb2); have HB2 := Lib.hid (HB.out.trans (hb2.mono HB.out.size)); clear hb2 e0 e1 e2))
          (refine wp_region_grow (by kernel_rfl) (by kernel_rfl) ?_; (repeat (go_big_quiet_step (fail))); refine wpQuiet_nil ?_; intro _ hw'; obtain ⟨gq, hw''⟩ := hw'; subst hw'')
          go_wp2
          go_roundw
          case rel => exact ⟨k + 1, lv, t, by omega, by go_num, rfl, by omega, HX2.out.below (grow_below _ _), HB2.out.trans ((grow_below _ _).mono HB2.out.size)⟩
          case measure => simp [intOf]; omega
    · go_wp2
      go_ret
      exact ⟨rfl, HB.out⟩
end Go.Proofs.Ytkinjjgaecbogaa.linesFollow
