/-
  The walk of the law TablesWith: it returns true, whatever its arguments. Conditions: none (arguments as the row reads them).
-/
import Derived.Test.YtkllgikmlgponaaTab19
import Derived.Test.YtkllgikmlgponaaTab4
namespace Go.Proofs.Ytkllgikmlgponaa.tablesWith
open Go.ChangeShapes Go.WideShapes Go.Deep Go.ChangeAt Go.RowKit Tab
set_option maxRecDepth 100000
set_option maxHeartbeats 6400000 in
theorem walk {H : Type} (enc : TypeId × Value → H) (w : World) (base : Nat) {v0 v1 v2 : Value} {d0 d1 d2 : DataW H} {p0 p1 p2 : List MemPlace}
    (h0 : DataW.Trod enc Try.prog w 0 (fun _ => true) true 3 v0 d0 p0) (k0 : Value.okWide Try.prog w .any base 3 v0)
    (h1 : DataW.Trod enc Try.prog w 0 (fun _ => true) true 22 v1 d1 p1) (k1 : Value.okWide Try.prog w .any base 22 v1)
    (h2 : DataW.Trod enc Try.prog w 0 (fun _ => true) true 9 v2 d2 p2) (k2 : Value.okWide Try.prog w .any base 9 v2) :
    Calls Try.prog 3 #[v0, v1, v2] w fun e w' => e = .returned (.bool true) ∧ Below w.heap.size w w' := by
  obtain ⟨kind, rfl, hk1, hk2⟩ := open_num h0 k0
  obtain ⟨l, hv, -, hxl⟩ := open_sl Ent.cells Ent.Ok Try.underlying22 ent_cells (by omega) ent_dec h1 k1
  obtain ⟨head, rfl, hs⟩ := open_text h2 k2
  clear h0 k0 h1 k1 h2 k2
  have HAW := Lib.hid fun w => awake19_any w
  have HV := Lib.hid hv
  obtain ⟨A, c, rfl, hc1, hc2, hn, hA⟩ := hv
  have HA := Lib.hid hA
  clear hA hn
  by_cases l1 : 40 < l.length
  · go_enter Try.func3, Try.ntmps3
    go_wp2_with (go_at_call 10; refine (HAW.out _).mono ?_; rintro e w' ⟨rfl, hb⟩; obtain ⟨g, rfl⟩ := to_grow hb; clear hb)
    go_ret
    exact ⟨rfl, by (repeat (first | with_reducible exact Below.refl _ _ | with_reducible assumption | with_reducible refine below_alloc ?_ _ | with_reducible refine below_grow ?_ _ | with_reducible refine below_drewN ?_ _ | with_reducible refine below_drew ?_ | with_reducible refine below_setCell ?_ (by first | (dsimp only; omega) | (simp; done) | (simp; omega)) _))⟩
  have c1 := no (show ¬ (40 : Int) < (l.length : Int) by omega)
  by_cases l2 : 100 < head.length
  · clear l1
    go_enter Try.func3, Try.ntmps3
    go_wp2_with (go_at_call 10; refine (HAW.out _).mono ?_; rintro e w' ⟨rfl, hb⟩; obtain ⟨g, rfl⟩ := to_grow hb; clear hb)
    go_ret
    exact ⟨rfl, by (repeat (first | with_reducible exact Below.refl _ _ | with_reducible assumption | with_reducible refine below_alloc ?_ _ | with_reducible refine below_grow ?_ _ | with_reducible refine below_drewN ?_ _ | with_reducible refine below_drew ?_ | with_reducible refine below_setCell ?_ (by first | (dsimp only; omega) | (simp; done) | (simp; omega)) _))⟩
  have c2 := no (show ¬ (100 : Int) < (head.length : Int) by omega)
  by_cases l3 : kind < 1
  · clear l1 l2
    go_enter Try.func3, Try.ntmps3
    go_wp2_with (go_at_call 10; refine (HAW.out _).mono ?_; rintro e w' ⟨rfl, hb⟩; obtain ⟨g, rfl⟩ := to_grow hb; clear hb)
    go_ret
    exact ⟨rfl, by (repeat (first | with_reducible exact Below.refl _ _ | with_reducible assumption | with_reducible refine below_alloc ?_ _ | with_reducible refine below_grow ?_ _ | with_reducible refine below_drewN ?_ _ | with_reducible refine below_drew ?_ | with_reducible refine below_setCell ?_ (by first | (dsimp only; omega) | (simp; done) | (simp; omega)) _))⟩
  have c3 := no l3
  by_cases l4 : 4 < kind
  · clear l1 l2 l3
    go_enter Try.func3, Try.ntmps3
    go_wp2_with (go_at_call 10; refine (HAW.out _).mono ?_; rintro e w' ⟨rfl, hb⟩; obtain ⟨g, rfl⟩ := to_grow hb; clear hb)
    go_ret
    exact ⟨rfl, by (repeat (first | with_reducible exact Below.refl _ _ | with_reducible assumption | with_reducible refine below_alloc ?_ _ | with_reducible refine below_grow ?_ _ | with_reducible refine below_drewN ?_ _ | with_reducible refine below_drew ?_ | with_reducible refine below_setCell ?_ (by first | (dsimp only; omega) | (simp; done) | (simp; omega)) _))⟩
  have c4 := no l4
  have hk1' : 1 ≤ kind := by omega
  have hk2' : kind ≤ 4 := by omega
  have hl40 : l.length ≤ 40 := by omega
  have HOF := Lib.hid fun W (hW : Below w.heap.size w W) hn => of_ok kind l _ W hk1' hk2' (HV.out.below hW) (by omega) hn
  have HRO := Lib.hid fun W (hW : Below w.heap.size w W) hn => refOf_any kind l _ W (HV.out.below hW) (by omega) hn
  have hol := ofL_len kind l
  have HWE := Lib.hid (withL_eq (ofL_rises kind l) head)
  have HBG := Lib.hid fun s w => begins_any s head w
  clear l1 l2 l3 l4 hk1 hk2 hk1' hk2'
  generalize ofL kind l = ys at *
  go_enter Try.func3, Try.ntmps3
  go_wp2_with (go_at_call 10; refine (HAW.out _).mono ?_; rintro e w' ⟨rfl, hb⟩; obtain ⟨g, rfl⟩ := to_grow hb; clear hb)
  have HB1 := Lib.hid (grow_below w g)
  generalize grow w g = w1 at *
  go_loopw [7] (fun i w' => ∃ k : Nat, k ≤ l.length ∧ i = .int .i64 k ∧ w1 = w' ∧ Hid (∀ j x, l[j]? = some x → j < k → x.name.length ≤ 100 ∧ x.val.length ≤ 100)) (fun i _ => l.length - (intOf i).toNat)
  case atStart => exact ⟨0, by omega, rfl, rfl, fun j x _ h => by omega⟩
  case round =>
    obtain ⟨k, hk, rfl, rfl, HN⟩ := hrel
    by_cases hlt : k < l.length
    · obtain ⟨b, off, rfl, hb, hc⟩ := HA.out (by omega)
      obtain ⟨x, hxm⟩ := get_some hlt
      have e0 := (HB1.out.cell (p := ⟨b, off + k * 2, none⟩) hb).trans (by have := hc k _ hxm 0 _ rfl; simpa using this)
      have e1 := (HB1.out.cell (p := ⟨b, off + k * 2 + 1, none⟩) hb).trans (hc k _ hxm 1 _ rfl)
      haveI : Old w1 b := ⟨World.block_lt_of_cell? _ _ e0⟩
      have k0 : (0 : Int) ≤ (k : Int) := by omega
      have k1 : (k : Int) < (l.length : Int) := by omega
      have HXM := Lib.hid hxm
      clear hc hxm
      by_cases n1 : 100 < x.name.length
      · go_wp2
        go_ret
        exact ⟨rfl, HB1.out⟩
      have q1 := no (show ¬ (100 : Int) < (x.name.length : Int) by omega)
      by_cases n2 : 100 < x.val.length
      · clear n1
        go_wp2
        go_ret
        exact ⟨rfl, HB1.out⟩
      have q2 := no (show ¬ (100 : Int) < (x.val.length : Int) by omega)
      have HNX := Lib.hid (show x.name.length ≤ 100 ∧ x.val.length ≤ 100 by omega)
      clear n1 n2
      go_wp2
      go_roundw
      case rel =>
        exact ⟨k + 1, by omega, by go_num, by trivial, fun j y hj hjk => by
          by_cases e : j = k
          · subst e; rw [HXM.out] at hj; cases hj; exact HNX.out
          · exact HN.out j y hj (by omega)⟩
      case measure => simp [intOf]; omega
    · have d0 := no hlt
      have HNA := Lib.hid (show ∀ e ∈ l, e.name.length ≤ 1073741824 ∧ e.val.length ≤ 65536 from fun e he => by
        obtain ⟨j, hj⟩ := List.mem_iff_getElem?.1 he
        have := HN.out j e hj (by have := (List.getElem?_eq_some_iff.1 hj).1; omega)
        omega)
      clear hlt
      go_wp2_with (first
        | (go_at_call 11; refine (HOF.out _ HB1.out HNA.out).mono ?_; rintro e w2 ⟨rfl, ⟨lv, ht⟩, hb⟩; have HT := Lib.hid ht; have HB2 := Lib.hid (below_then HB1.out hb); clear ht hb)
        | (go_at_call 12; refine (HRO.out _ HB2.out HNA.out).mono ?_; rintro e w3 ⟨v3, rfl, ho, hb⟩; have HO3 := Lib.hid ho; have HT3 := Lib.hid (HT.out.below hb); have HB3 := Lib.hid (below_then HB2.out hb); obtain ⟨A3, c3', rfl, -⟩ := ho.form0; clear ho hb)
        | (go_at_call 13; refine (right_yes _ _ _ _ _ _ _ (by omega) HT3.out (HO3.out.sl ent_len rfl)).mono ?_; rintro e w4 ⟨rfl, hb⟩; have HO4 := Lib.hid (HO3.out.below hb); have HT4 := Lib.hid (HT3.out.below hb); have HB4 := Lib.hid (below_then HB3.out hb); clear hb)
        | (go_at_call 14; refine (with_any _ _ _ _ _ _ head (by omega) HT4.out).mono ?_; rintro e w5 ⟨v5, rfl, ho, hb⟩; rw [HWE.out] at ho; have HN5 := Lib.hid ho; have HO5 := Lib.hid (HO4.out.below hb); have HB5 := Lib.hid (below_then HB4.out hb); obtain ⟨A5, c5, rfl, -⟩ := ho.form0; clear ho hb))
      rw [List.length_map] at *
      go_loopw [11, 12] (fun n i w' => ∃ k : Nat, k ≤ ys.length ∧ i = .int .i64 k ∧ n = .int .i64 ((ys.take k).filter (begB head)).length ∧ Hid (Below w5.heap.size w5 w')) (fun _ i _ => ys.length - (intOf i).toNat)
      case atStart => exact ⟨0, by omega, rfl, rfl, Below.refl _ _⟩
      case round =>
        obtain ⟨k, hk, rfl, rfl, HB6⟩ := hrel
        by_cases hlt : k < ys.length
        · obtain ⟨g3, off3, rfl⟩ : ∃ g3 off3, A3 = some ⟨g3, off3, none⟩ := by
            obtain ⟨g, off, c', e, -⟩ := HO5.out.form' (by omega)
            injection e with e1
            exact ⟨g, off, e1⟩
          obtain ⟨x, hxm⟩ := get_some hlt
          obtain ⟨f0, f1, f2⟩ := own_ent (HO5.out.below HB6.out) hxm
          haveI : Old wr g3 := ⟨f2⟩
          have k0 : (0 : Int) ≤ (k : Int) := by omega
          have k1 : (k : Int) < (ys.length : Int) := by omega
          have HX := Lib.hid fun w => HBG.out x.name w
          have hbx : begB head x = Lib.hasPrefix x.name head := rfl
          have hfl : ((ys.take k).filter (begB head)).length ≤ ys.length := Nat.le_trans (List.length_filter_le _ _) (by rw [List.length_take]; omega)
          cases hq : Lib.hasPrefix x.name head with
          | false =>
            rw [hq] at HX hbx
            have HF := Lib.hid (filter_not (begB head) hxm hbx)
            clear hxm hbx hq
            go_wp2_with (go_at_call 15; refine (HX.out _).mono ?_; rintro e w7 ⟨rfl, rfl⟩)
            go_roundw
            case rel => exact ⟨k + 1, by omega, by go_num, by rw [HF.out], HB6.out⟩
            case measure => simp [intOf]; omega
          | true =>
            rw [hq] at HX hbx
            obtain ⟨a1, a2, a3⟩ := filter_at (begB head) hxm hbx
            obtain ⟨g5, off5, rfl⟩ : ∃ g5 off5, A5 = some ⟨g5, off5, none⟩ := by
              obtain ⟨g, off, c', e, -⟩ := HN5.out.form' (by omega)
              injection e with e1
              exact ⟨g, off, e1⟩
            obtain ⟨n0, n1⟩ := own_str (HN5.out.below HB6.out) (i := ((ys.take k).filter (begB head)).length) (x := x.name) (by rw [List.getElem?_map, a1]; rfl)
            haveI : Old wr g5 := ⟨n1⟩
            have HF := Lib.hid (show (((ys.take (k + 1)).filter (begB head)).length = ((ys.take k).filter (begB head)).length + 1) by rw [a2, List.length_append]; rfl)
            clear hxm hbx hq a1 a2
            generalize ((ys.take k).filter (begB head)).length = n at *
            generalize (ys.filter (begB head)).length = m at *
            have m1 := no (show ¬ m ≤ n by omega)
            have m2 : (0 : Int) ≤ (n : Int) := by omega
            have m3 : (n : Int) < (m : Int) := by omega
            go_wp2_with (go_at_call 15; refine (HX.out _).mono ?_; rintro e w7 ⟨rfl, rfl⟩)
            (refine wp_region_grow (by kernel_rfl) (by kernel_rfl) ?_; (repeat (go_big_quiet_step (fail))); refine wpQuiet_nil ?_; intro _ hw'; obtain ⟨gq, hw''⟩ := hw'; subst hw'')
            go_wp2_with fail
            go_roundw
            case rel => exact ⟨k + 1, by omega, by go_num, by rw [HF.out]; go_num, below_grow HB6.out _⟩
            case measure => simp [intOf]; omega
        · have hk2 : k = ys.length := by omega
          subst hk2
          have d0 := no hlt
          rw [List.take_length]
          clear hlt
          go_wp2
          go_ret
          exact ⟨Cls.ret_b (by simp), below_then HB5.out HB6.out⟩
end Go.Proofs.Ytkllgikmlgponaa.tablesWith
