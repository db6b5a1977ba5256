/-
  The walk of the law EditAll: it returns true, whatever its arguments. Conditions: none (arguments as the row reads them).
-/
import Derived.Test.YthpjapphehclnaaEditAll
import Derived.Deep.RegionWith
namespace Go.Proofs.Ythpjapphehclnaa.editAll
open Go.ChangeShapes Go.WideShapes Go.ChangeAt Go.RowKit
theorem ed_dec {H : Type} {enc : TypeId × Value → H} {w : World} {fuel : Nat} {cs : List Value} {d : DataW H × List MemPlace}
    (h : DataW.trod enc Try.prog w 0 (fun _ => true) true fuel 24 cs = some d) : ∃ x : Ed, cs = x.cells ∧ x.Ok := by
  obtain ⟨ys, n, _, _, hl, hyl, hf⟩ := DataW.trod_struct Try.underlying24 h
  rw [edit_cells] at hl
  match cs, hl with
  | [c0, c1, c2], _ =>
    have h0 := hf 0 _ rfl
    have h1 := hf 1 _ rfl
    have h2 := hf 2 _ rfl
    have k0 : Try.prog.cellsOf 3 = 1 := by kernel_rfl
    have k1 : Try.prog.cellsOf 9 = 1 := by kernel_rfl
    simp [k0] at h0
    simp [k1] at h1 h2
    have hy0 : ys[0]? = some (ys[0]'(by rw [hyl]; decide)) := List.getElem?_eq_getElem _
    have hy1 : ys[1]? = some (ys[1]'(by rw [hyl]; decide)) := List.getElem?_eq_getElem _
    have hy2 : ys[2]? = some (ys[2]'(by rw [hyl]; decide)) := List.getElem?_eq_getElem _
    obtain ⟨m, e0, _, wn⟩ := DataW.trod_int Try.underlying3 (h0.trans hy0)
    obtain ⟨s1, e1, _, w1⟩ := DataW.trod_string Try.underlying9 (h1.trans hy1)
    obtain ⟨s2, e2, _, w2⟩ := DataW.trod_string Try.underlying9 (h2.trans hy2)
    simp at e0 e1 e2
    subst e0 e1 e2
    obtain ⟨a, rfl⟩ := B_all s1
    obtain ⟨b, rfl⟩ := B_all s2
    rw [B_size] at w1 w2
    have := bounds_i64 wn
    exact ⟨⟨m, a, b⟩, rfl, this.1, this.2, w1, w2⟩
set_option maxHeartbeats 3200000 in
theorem walk {H : Type} (enc : TypeId × Value → H) (w : World) (base : Nat) {v0 v1 : Value} {d0 d1 : DataW H} {p0 p1 : List MemPlace}
    (h0 : DataW.Trod enc Try.prog w 0 (fun _ => true) true 9 v0 d0 p0) (k0 : Value.okWide Try.prog w .any base 9 v0)
    (h1 : DataW.Trod enc Try.prog w 0 (fun _ => true) true 40 v1 d1 p1) (k1 : Value.okWide Try.prog w .any base 40 v1) :
    Calls Try.prog 7 #[v0, v1] w fun e w' => e = .returned (.bool true) ∧ Below w.heap.size w w' := by
  obtain ⟨s, rfl, hs⟩ := open_text h0 k0
  obtain ⟨xs, hv, hok, hxl⟩ := open_sl Ed.cells Ed.Ok Try.underlying40 edit_cells (by omega) ed_dec h1 k1
  clear h0 k0 h1 k1
  have hv' := hv
  obtain ⟨A, c, rfl, hc1, hc2, hA⟩ := hv'
  by_cases l1 : 300 < s.length
  · go_enter Try.func7, Try.ntmps7
    go_wp2_with (go_at_call 9; refine (awake_any _).mono ?_; rintro e w' ⟨rfl, hb⟩; obtain ⟨g, rfl⟩ := to_grow hb; clear hb)
    go_ret
    exact ⟨rfl, by (repeat (first | exact Below.refl _ _ | assumption | with_reducible refine below_alloc ?_ _ | with_reducible refine below_grow ?_ _ | with_reducible refine below_drewN ?_ _ | with_reducible refine below_drew ?_ | with_reducible refine below_setCell ?_ (by first | (dsimp only; omega) | (simp; done) | (simp; omega)) _))⟩
  by_cases l2 : 20 < xs.length
  · go_enter Try.func7, Try.ntmps7
    go_wp2_with (go_at_call 9; refine (awake_any _).mono ?_; rintro e w' ⟨rfl, hb⟩; obtain ⟨g, rfl⟩ := to_grow hb; clear hb)
    go_ret
    exact ⟨rfl, by (repeat (first | exact Below.refl _ _ | assumption | with_reducible refine below_alloc ?_ _ | with_reducible refine below_grow ?_ _ | with_reducible refine below_drewN ?_ _ | with_reducible refine below_drew ?_ | with_reducible refine below_setCell ?_ (by first | (dsimp only; omega) | (simp; done) | (simp; omega)) _))⟩
  have b1 : s.length ≤ 300 := by omega
  have b2 : xs.length ≤ 20 := by omega
  have HALL := Lib.hid fun (g : GrowOf w) => all_any s xs _ (grow w g) (by omega) (hv.below g.2) hok
  have HA := Lib.hid hA
  have HO := Lib.hid hok
  clear hA hok hv
  obtain ⟨rt, rn, rb, hr⟩ : ∃ a b c, runAll xs s 0 = (a, b, c) := ⟨_, _, _, rfl⟩
  have Hr := Lib.hid hr
  clear hr
  go_enter Try.func7, Try.ntmps7
  go_wp2_with (first | (go_at_call 9; refine (awake_any _).mono ?_; rintro e w' ⟨rfl, hb⟩; obtain ⟨g, rfl⟩ := to_grow hb; clear hb) | (go_at_call 20; refine (HALL.out _).mono ?_; rintro e w' ⟨he, hb⟩; rw [Hr.out] at he; subst he; obtain ⟨g, rfl⟩ := to_grow hb; clear hb))
  go_loopg [8, 9, 10] (xs.length + 1) (fun g u i _ w' => ∃ (t : List UInt8) (k : Nat), k ≤ xs.length ∧ g = xs.length + 1 - k ∧ u = .string (B t) ∧ i = .int .i64 k ∧ t.length ≤ 1048576 ∧ Hid (runAll xs s 0 = runAll (xs.drop k) t k) ∧ ∃ g : GrowOf w, w' = grow w g)
  case atStart => exact ⟨s, 0, by omega, rfl, rfl, rfl, by omega, rfl, to_grow (by (repeat (first | exact Below.refl _ _ | assumption | with_reducible refine below_alloc ?_ _ | with_reducible refine below_grow ?_ _ | with_reducible refine below_drewN ?_ _ | with_reducible refine below_drew ?_ | with_reducible refine below_setCell ?_ (by first | (dsimp only; omega) | (simp; done) | (simp; omega)) _)))⟩
  case round =>
    obtain ⟨t, k, hk, hg, rfl, rfl, ht, Hrun, g, rfl⟩ := hrel
    have Hg := Lib.hid hg
    clear hg
    by_cases hlt : k < xs.length
    · obtain ⟨b, off, rfl, hb, hc⟩ := HA.out (by omega)
      haveI : Old w b := ⟨hb⟩
      have hx := List.getElem?_eq_getElem hlt
      have hxm := HO.out _ (List.getElem_mem hlt)
      have hcons : xs.drop k = xs[k] :: xs.drop (k + 1) := List.drop_eq_getElem_cons hlt
      have e0 : w.cell? ⟨b, off + k * 3, none⟩ = some (.int .i64 xs[k].pos) := hc k _ hx 0 _ rfl
      have e1 : w.cell? ⟨b, off + k * 3 + 1, none⟩ = some (.string (B xs[k].del)) := hc k _ hx 1 _ rfl
      have e2 : w.cell? ⟨b, off + k * 3 + 2, none⟩ = some (.string (B xs[k].ins)) := hc k _ hx 2 _ rfl
      have Hrun2 := Hrun.out
      rw [hcons] at Hrun2
      clear hc hx hcons Hrun
      generalize xs[k] = x at *
      obtain ⟨pos, del, ins⟩ := x
      simp only [runAll] at Hrun2
      obtain ⟨_, _, hd, hi⟩ := hxm
      simp only at hd hi e0 e1 e2
      have HRun2 := Lib.hid Hrun2
      clear Hrun2
      by_cases m1 : 300 < del.length
      · go_wp2
        go_ret
        exact ⟨rfl, by (repeat (first | exact Below.refl _ _ | assumption | with_reducible refine below_alloc ?_ _ | with_reducible refine below_grow ?_ _ | with_reducible refine below_drewN ?_ _ | with_reducible refine below_drew ?_ | with_reducible refine below_setCell ?_ (by first | (dsimp only; omega) | (simp; done) | (simp; omega)) _))⟩
      by_cases m2 : 300 < ins.length
      · go_wp2
        go_ret
        exact ⟨rfl, by (repeat (first | exact Below.refl _ _ | assumption | with_reducible refine below_alloc ?_ _ | with_reducible refine below_grow ?_ _ | with_reducible refine below_drewN ?_ _ | with_reducible refine below_drew ?_ | with_reducible refine below_setCell ?_ (by first | (dsimp only; omega) | (simp; done) | (simp; omega)) _))⟩
      have m1' := no m1
      have m2' := no m2
      have HW := Lib.hid fun w => refWrong_any t del ins pos w (by omega) (by omega) (by omega)
      by_cases hz : wrong t pos del ins = 0
      · have hl := does_le hz
        obtain ⟨n, rfl, hn, _, hn3⟩ := wrong_zero hz
        have HW' := Lib.hid fun w => show Calls Try.prog 13 #[.string (B t), Edit n del ins] w fun e w' => e = .returned (.int .i64 0) ∧ Below w.heap.size w w' from (HW.out w).mono fun e w' h => ⟨by rw [h.1, hz], h.2⟩
        have HD := Lib.hid fun w => refDo_any t del ins n w (by omega) (by omega) hn
        have Hrun3 := HRun2.out
        rw [if_pos hz] at Hrun3
        have HRun3 := Lib.hid Hrun3
        clear hz Hrun3 HRun2 HW
        generalize does t n del ins = t' at *
        go_wp2_with (first | (go_at_call 13; refine (HW'.out _).mono ?_; rintro e w' ⟨rfl, hb⟩; obtain ⟨g, rfl⟩ := to_grow hb; clear hb) | (go_at_call 16; refine (HD.out _).mono ?_; rintro e w' ⟨rfl, hb⟩; obtain ⟨g, rfl⟩ := to_grow hb; clear hb))
        go_roundg (xs.length - k)
        case measure => rw [Hg.out]; omega
        case rel => exact ⟨t', k + 1, by omega, by omega, rfl, by go_num, by omega, HRun3.out, to_grow (by (repeat (first | exact Below.refl _ _ | assumption | with_reducible refine below_alloc ?_ _ | with_reducible refine below_grow ?_ _ | with_reducible refine below_drewN ?_ _ | with_reducible refine below_drew ?_ | with_reducible refine below_setCell ?_ (by first | (dsimp only; omega) | (simp; done) | (simp; omega)) _)))⟩
      · have Hrun3 := HRun2.out
        rw [if_neg hz, Hr.out] at Hrun3
        simp only [Prod.mk.injEq] at Hrun3
        obtain ⟨rfl, rfl, rfl⟩ := Hrun3
        have hz' : (wrong t pos del ins != 0) = true := by simpa using hz
        clear HRun2 hz
        generalize wrong t pos del ins = n at *
        go_wp2_with (first | (go_at_call 13; refine (HW.out _).mono ?_; rintro e w' ⟨rfl, hb⟩; obtain ⟨g, rfl⟩ := to_grow hb; clear hb))
        go_ret
        exact ⟨by rfl, by (repeat (first | exact Below.refl _ _ | assumption | with_reducible refine below_alloc ?_ _ | with_reducible refine below_grow ?_ _ | with_reducible refine below_drewN ?_ _ | with_reducible refine below_drew ?_ | with_reducible refine below_setCell ?_ (by first | (dsimp only; omega) | (simp; done) | (simp; omega)) _))⟩
    · have hk' : k = xs.length := by omega
      have hr2 := Hrun.out
      rw [hk', List.drop_length, Hr.out] at hr2
      simp only [runAll, Prod.mk.injEq] at hr2
      obtain ⟨rfl, rfl, rfl⟩ := hr2
      have HK := Lib.hid hk'
      clear Hrun hk' Hr HALL
      go_wp2
      go_ret
      exact ⟨by rfl, by (repeat (first | exact Below.refl _ _ | assumption | with_reducible refine below_alloc ?_ _ | with_reducible refine below_grow ?_ _ | with_reducible refine below_drewN ?_ _ | with_reducible refine below_drew ?_ | with_reducible refine below_setCell ?_ (by first | (dsimp only; omega) | (simp; done) | (simp; omega)) _))⟩
end Go.Proofs.Ythpjapphehclnaa.editAll
