/-
  The walk of the law FilesOf: it returns true, whatever its arguments. Conditions: the library's variable MaxLen holds some number (arguments as the row reads them).
-/
import Derived.Test.YtkllgikmlgponaaRight18
import Derived.Test.YtkllgikmlgponaaTree5
import Derived.Test.YtkllgikmlgponaaOpen
import Derived.Test.YtkllgikmlgponaaMid
namespace Go.Proofs.Ytkllgikmlgponaa.filesOf
open Go.ChangeShapes Go.WideShapes Go.Deep Go.ChangeAt Go.RowKit Fil Pat
set_option maxRecDepth 100000
def FlOk (x : Fl) : Prop := x.path.length ≤ 9223372036854775807 ∧ -9223372036854775808 ≤ x.kind ∧ x.kind ≤ 9223372036854775807
theorem fl_cells : Try.prog.cellsOf 59 = 2 := by kernel_rfl
theorem fl_dec {H : Type} {enc : TypeId × Value → H} {w : World} {fuel : Nat} {cs : List Value} {d : DataW H × List MemPlace}
    (h : DataW.trod enc Try.prog w 0 (fun _ => true) true fuel 59 cs = some d) : ∃ x : Fl, cs = flC x ∧ FlOk x := by
  obtain ⟨ys, n, _, _, hl, hyl, hf⟩ := DataW.trod_struct Try.underlying59 h
  rw [fl_cells] at hl
  match cs, hl with
  | [c0, c1], _ =>
    have k0 : Try.prog.cellsOf 9 = 1 := by kernel_rfl
    have k1 : Try.prog.cellsOf 3 = 1 := by kernel_rfl
    have h0 := hf 0 _ rfl
    have h1 := hf 1 _ rfl
    simp [k0, k1] at h0 h1
    have hy0 : ys[0]? = some (ys[0]'(by rw [hyl]; decide)) := List.getElem?_eq_getElem _
    obtain ⟨s0, e0, _, w0⟩ := DataW.trod_string Try.underlying9 (h0.trans hy0)
    obtain ⟨a0, rfl⟩ := B_all s0
    rw [B_size] at w0
    have hy1 : ys[1]? = some (ys[1]'(by rw [hyl]; decide)) := List.getElem?_eq_getElem _
    obtain ⟨s1, e1, _, w1⟩ := DataW.trod_int Try.underlying3 (h1.trans hy1)
    simp at e0
    simp at e1
    subst e0
    subst e1
    exact ⟨⟨a0, s1⟩, rfl, w0, bounds_i64 w1⟩
set_option maxHeartbeats 6400000 in
theorem walk {H : Type} (enc : TypeId × Value → H) (w : World) (base : Nat) {v0 : Value} {d0 : DataW H} {p0 : List MemPlace} (hm : MaxL w)
    (h0 : DataW.Trod enc Try.prog w 0 (fun _ => true) true 57 v0 d0 p0) (k0 : Value.okWide Try.prog w .any base 57 v0) :
    Calls Try.prog 8 #[v0] w fun e w' => e = .returned (.bool true) ∧ Below w.heap.size w w' := by
  obtain ⟨l, hv, -, hxl⟩ := open_sl flC FlOk Try.underlying57 fl_cells (by omega) fl_dec h0 k0
  clear h0 k0
  have HAW := Lib.hid (awake18_any w hm)
  have HV := Lib.hid hv
  have HM := Lib.hid hm
  obtain ⟨A, c, rfl, hc1, hc2, hn, hA⟩ := hv
  have HA := Lib.hid hA
  clear hA hn hm hxl
  by_cases l1 : 30 < l.length
  · go_enter Try.func8, Try.ntmps8
    go_wp2_with (go_at_call 24; refine HAW.out.mono ?_; rintro e w1 ⟨rfl, hb⟩; have HB := Lib.hid hb; clear hb)
    go_ret
    exact ⟨rfl, HB.out⟩
  have c1 := no (show ¬ (30 : Int) < (l.length : Int) by omega)
  have hl30 : l.length ≤ 30 := by omega
  clear l1
  have HRM := Lib.hid refMake_any
  have HOF := Lib.hid of_any
  have HRI := Lib.hid right_any
  have HAL := Lib.hid all_any
  go_enter Try.func8, Try.ntmps8
  go_wp2_with (go_at_call 24; refine HAW.out.mono ?_; rintro e w1 ⟨rfl, hb⟩; have HB1 := Lib.hid hb; clear hb)
  go_loopw [3, 4] (fun o i w' => ∃ (k : Nat) (u : Value), u = o ∧ k ≤ l.length ∧ i = .int .i64 k ∧ Hid (Sl w' flC 2 u (ofF (l.take k))) ∧ Hid (Below w.heap.size w w') ∧ Hid (∀ j x, l[j]? = some x → j < k → x.path.length ≤ 300)) (fun _ i _ => l.length - (intOf i).toNat)
  case atStart => exact ⟨0, _, rfl, by omega, rfl, Sl.nil _ _ _, HB1.out, fun j x _ h => by omega⟩
  case round =>
    obtain ⟨k, u, rfl, hk, rfl, HO, HB, HN⟩ := hrel
    have hbs := HB.out.size
    by_cases hlt : k < l.length
    · obtain ⟨b, off, rfl, hb, hc⟩ := HA.out (by omega)
      obtain ⟨x, hxm⟩ := get_some hlt
      have e0 := (HB.out.cell (p := ⟨b, off + k * 2, none⟩) hb).trans (by have := hc k _ hxm 0 _ rfl; simpa using this)
      have e1 := (HB.out.cell (p := ⟨b, off + k * 2 + 1, none⟩) hb).trans (hc k _ hxm 1 _ rfl)
      haveI : Old wr b := ⟨World.block_lt_of_cell? _ _ e0⟩
      have k0 : (0 : Int) ≤ (k : Int) := by omega
      have k1 : (k : Int) < (l.length : Int) := by omega
      have HXM := Lib.hid hxm
      clear hc hxm
      by_cases n1 : 300 < x.path.length
      · go_wp2
        go_ret
        exact ⟨rfl, HB.out⟩
      have q1 := no (show ¬ (300 : Int) < (x.path.length : Int) by omega)
      have HNX := Lib.hid (show x.path.length ≤ 300 by omega)
      have hfl := ofF_len k l
      have HMK := Lib.hid fun W (hW : Below wr.heap.size wr W) => HRM.out (ofF (l.take k)) u x.path x.kind W (HO.out.below hW) (by omega) (by have := HNX.out; omega)
      rw [← ofF_snoc l k x HXM.out] at HMK
      clear n1 hfl
      go_wp2_with fail
      (refine wp_region_grow_mid 11 (by kernel_rfl) (by kernel_rfl) rfl ?_; simp only [List.take_succ_cons, List.take_zero, List.drop_succ_cons, List.drop_zero]; (repeat (go_big_quiet_step (fail))); refine wpQuiet_nil ?_; intro _ hw'; obtain ⟨gq, hw''⟩ := hw'; subst hw''; intro K hK; go_simp; ((go_at_call 32; refine (HMK.out _ (grow_below _ _)).mono ?_; rintro e w4 ⟨v4, rfl, ho4, hb4⟩; have HO4 := Lib.hid ho4; have HB4 := Lib.hid (below_then (below_grow HB.out _) hb4); clear ho4 hb4)); refine hK.out _ _ ?_; clear hK K; (repeat (go_big_quiet_step (fail))); refine wpQuiet_nil ?_; intro _ hw'; obtain ⟨gq2, hw''⟩ := hw'; subst hw'')
      have HO5 := Lib.hid (HO4.out.below (grow_below w4 gq2))
      have HB5 := Lib.hid (below_grow HB4.out gq2)
      generalize grow w4 gq2 = W4 at *
      go_wp2_with fail
      go_roundw
      case rel =>
        refine ⟨k + 1, v4, rfl, by omega, by go_num, HO5.out, HB5.out, fun j y hj hjk => ?_⟩
        by_cases e : j = k
        · subst e; rw [HXM.out] at hj; cases hj; exact HNX.out
        · exact HN.out j y hj (by omega)
      case measure => simp [intOf]; omega
    · have hk2 : k = l.length := by omega
      subst hk2
      have d0 := no hlt
      have HNA := Lib.hid (show ∀ f ∈ l, f.path.length ≤ 300 from fun f hf => by
        obtain ⟨j, hj⟩ := List.mem_iff_getElem?.1 hf
        exact HN.out j f hj (List.getElem?_eq_some_iff.1 hj).1)
      have HO2 := HO
      rw [List.take_length] at HO2
      have hfl := ofF_len l.length l
      have hfm := ofF_mem l.length l
      rw [List.take_length] at hfl hfm
      have HFM := Lib.hid hfm
      clear hlt HO HN hfm
      generalize hx : ofF l = x at *
      go_wp2_with (first
        | (go_at_call 33; (with_reducible refine (HOF.out l _ wr (HV.out.below HB.out) (HM.out.below HB.out) (by omega) (fun f hf => by have := HNA.out f hf; omega)).mono ?_); rintro e w2 ⟨rfl, ⟨nb2, mp2, ht2⟩, hb2⟩; rw [hx] at ht2; have HT2 := Lib.hid ht2; have HB2 := Lib.hid (below_then HB.out hb2); have HO3 := Lib.hid (HO2.out.below hb2); clear ht2 hb2)
        | (go_at_call 34; (with_reducible refine (HRI.out w2 _ _ x x nb2 mp2 u HT2.out (by omega) (fun f hf => by have := HNA.out f (HFM.out f hf); omega) HO3.out (List.Perm.refl _)).mono ?_); rintro e w3 ⟨rfl, hb3⟩; have HT3 := Lib.hid (HT2.out.below hb3); have HB3 := Lib.hid (below_then HB2.out hb3); have HO4 := Lib.hid (HO3.out.below hb3); clear hb3)
        | (go_at_call 35; (with_reducible refine (HAL.out w3 _ _ x nb2 mp2 HT3.out (by omega) (fun f hf => by have := HNA.out f (HFM.out f hf); omega)).mono ?_); rintro e w4 ⟨v4, ls, rfl, hp4, hr4, ho4, hb4⟩; have HP4 := Lib.hid hp4; have HR4 := Lib.hid hr4; have HS4 := Lib.hid (ho4.sl flC_len rfl); have HB4 := Lib.hid (below_then HB3.out hb4); have HO5 := Lib.hid (HO4.out.below hb4); have HE : Hid (ofF ls = ls) := (by have := ofF_rise HT3.out.ok hp4 hr4 (by have := hp4.length_eq; omega) ls.length (Nat.le_refl _); rwa [List.take_length] at this); clear hp4 hr4 ho4 hb4)
        | (go_at_call 33; (with_reducible refine (HOF.out ls v4 w4 HS4.out (HM.out.below HB4.out) (by have := HP4.out.length_eq; omega) (fun f hf => by have := HNA.out f (HFM.out f (HP4.out.mem_iff.1 hf)); omega)).mono ?_); rintro e w5 ⟨rfl, ⟨nb5, mp5, ht5⟩, hb5⟩; rw [HE.out] at ht5; have HT5 := Lib.hid ht5; have HB5 := Lib.hid (below_then HB4.out hb5); have HO6 := Lib.hid (HO5.out.below hb5); clear ht5 hb5)
        | (go_at_call 34; (with_reducible refine (HRI.out w5 _ _ ls x nb5 mp5 u HT5.out (by have := HP4.out.length_eq; omega) (fun f hf => by have := HNA.out f (HFM.out f (HP4.out.mem_iff.1 hf)); omega) HO6.out HP4.out.symm).mono ?_); rintro e w6 ⟨rfl, hb6⟩; have HB6 := Lib.hid (below_then HB5.out hb6); clear hb6))
      go_ret
      exact ⟨rfl, HB6.out⟩
end Go.Proofs.Ytkllgikmlgponaa.filesOf
