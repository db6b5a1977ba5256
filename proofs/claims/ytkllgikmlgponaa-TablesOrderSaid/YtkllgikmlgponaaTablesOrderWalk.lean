/-
  The walk of the law TablesOrder: it returns true, whatever its arguments. Conditions: none (arguments as the row reads them).
-/
import Derived.Test.YtkllgikmlgponaaTab21
import Derived.Test.YtkllgikmlgponaaTab4
namespace Go.Proofs.Ytkllgikmlgponaa.tablesOrder
open Go.ChangeShapes Go.WideShapes Go.Deep Go.ChangeAt Go.RowKit Tab
set_option maxRecDepth 100000
set_option maxHeartbeats 6400000 in
theorem walk {H : Type} (enc : TypeId × Value → H) (w : World) (base : Nat) {v0 v1 : Value} {d0 d1 : DataW H} {p0 p1 : List MemPlace}
    (h0 : DataW.Trod enc Try.prog w 0 (fun _ => true) true 3 v0 d0 p0) (k0 : Value.okWide Try.prog w .any base 3 v0)
    (h1 : DataW.Trod enc Try.prog w 0 (fun _ => true) true 22 v1 d1 p1) (k1 : Value.okWide Try.prog w .any base 22 v1) :
    Calls Try.prog 4 #[v0, v1] w fun e w' => e = .returned (.bool true) ∧ Below w.heap.size w w' := by
  obtain ⟨i0, hi0, hz00, hz01, hz02⟩ := info_parts info_ent
  obtain ⟨kind, rfl, hk1, hk2⟩ := open_num h0 k0
  obtain ⟨l, hv, -, hxl⟩ := open_sl Ent.cells Ent.Ok Try.underlying22 ent_cells (by omega) ent_dec h1 k1
  clear h0 k0 h1 k1
  have HAW := Lib.hid fun w => awake19_any w
  have HV := Lib.hid hv
  obtain ⟨A, c, rfl, hc1, hc2, hn, hA⟩ := hv
  have HA := Lib.hid hA
  clear hA hn
  by_cases l1 : 40 < l.length
  · go_enter Try.func4, Try.ntmps4
    go_wp2_with (go_at_call 10; refine (HAW.out _).mono ?_; rintro e w' ⟨rfl, hb⟩; obtain ⟨g, rfl⟩ := to_grow hb; clear hb)
    go_ret
    exact ⟨rfl, by (repeat (first | with_reducible exact Below.refl _ _ | with_reducible assumption | with_reducible refine below_alloc ?_ _ | with_reducible refine below_grow ?_ _ | with_reducible refine below_drewN ?_ _ | with_reducible refine below_drew ?_ | with_reducible refine below_setCell ?_ (by first | (dsimp only; omega) | (simp; done) | (simp; omega)) _))⟩
  have c1 := no (show ¬ (40 : Int) < (l.length : Int) by omega)
  have hl40 : l.length ≤ 40 := by omega
  clear l1
  go_enter Try.func4, Try.ntmps4
  go_wp2_with (go_at_call 10; refine (HAW.out _).mono ?_; rintro e w' ⟨rfl, hb⟩; obtain ⟨g, rfl⟩ := to_grow hb; clear hb)
  have HB1 := Lib.hid (grow_below w g)
  generalize grow w g = w1 at *
  go_loopw [5, 6] (fun o i w' => ∃ (k : Nat) (u : Value), u = o ∧ k ≤ l.length ∧ i = .int .i64 k ∧ Hid (Own w' w.heap.size 2 u k ((l.take k).reverse.flatMap Ent.cells)) ∧ Hid (Below w.heap.size w w') ∧ Hid ((l.take k).Pairwise fun a b => a.name ≠ b.name) ∧ Hid (∀ j x, l[j]? = some x → j < k → x.name.length ≤ 100 ∧ x.val.length ≤ 100)) (fun _ i _ => l.length - (intOf i).toNat)
  case atStart => exact ⟨0, _, rfl, by omega, rfl, Own.nil _ _ _, HB1.out, List.Pairwise.nil, fun j x _ h => by omega⟩
  case round =>
    obtain ⟨k, u, rfl, hk, rfl, HO, HB, HD, HN⟩ := hrel
    have hbs := HB.out.size
    by_cases hlt : k < l.length
    · obtain ⟨b, off, rfl, hb, hc⟩ := HA.out (by omega)
      obtain ⟨x, hxm⟩ := get_some hlt
      have e0 := (HB.out.cell (p := ⟨b, off + k * 2, none⟩) hb).trans (by have := hc k _ hxm 0 _ rfl; simpa using this)
      have e1 := (HB.out.cell (p := ⟨b, off + k * 2 + 1, none⟩) hb).trans (hc k _ hxm 1 _ rfl)
      haveI : Old wr b := ⟨World.block_lt_of_cell? _ _ e0⟩
      have k0 : (0 : Int) ≤ (k : Int) := by omega
      have k1 : (k : Int) < (l.length : Int) := by omega
      have k2 : (k : Int) ≤ (l.length : Int) := by omega
      have k3 : (k : Int) ≤ (c : Int) := by omega
      have HXM := Lib.hid hxm
      clear hc hxm
      by_cases n1 : 100 < x.name.length
      · go_wp2
        go_ret
        exact ⟨rfl, HB.out⟩
      have q1 := no (show ¬ (100 : Int) < (x.name.length : Int) by omega)
      by_cases n2 : 100 < x.val.length
      · clear n1
        go_wp2
        go_ret
        exact ⟨rfl, HB.out⟩
      have q2 := no (show ¬ (100 : Int) < (x.val.length : Int) by omega)
      have HNX := Lib.hid (show x.name.length ≤ 100 ∧ x.val.length ≤ 100 by omega)
      have HGE := Lib.hid fun W (hW : Below w.heap.size w W) => refGet_any (l.take k) (.slice (some ⟨b, off, none⟩) k c) x.name W (sl_take (HV.out.below hW) hk) (by rw [List.length_take]; omega)
      have hfd : ∀ a, getE (l.take k) x.name = none → a ∈ l.take k → a.name ≠ x.name := fun a hf ha e => by
        have := List.find?_eq_none.1 hf a ha
        simp [e] at this
      have HFD := Lib.hid hfd
      clear n1 n2 hfd
      cases hg : getE (l.take k) x.name with
      | some y =>
        rw [hg] at HGE
        unfold getP at HGE
        go_wp2
        (refine wp_region_grow (by kernel_rfl) (by kernel_rfl) ?_; (repeat (go_big_quiet_step (((go_at_call 16; exact grow_same (HGE.out _ (below_then HB.out (by (repeat (first | exact Below.refl _ _ | assumption | with_reducible refine below_alloc ?_ _ | with_reducible refine below_grow ?_ _ | with_reducible refine below_drewN ?_ _ | with_reducible refine below_drew ?_ | with_reducible refine below_setCell ?_ (by first | (dsimp only; omega) | (simp; done) | (simp; omega)) _)))))))))); refine wpQuiet_nil ?_; intro _ hw'; obtain ⟨gq, hw''⟩ := hw'; subst hw'')
        go_wp2
        go_ret
        exact ⟨rfl, below_grow HB.out _⟩
      | none =>
        rw [hg] at HGE
        unfold getP at HGE
        go_wp2
        (refine wp_region_grow (by kernel_rfl) (by kernel_rfl) ?_; (repeat (go_big_quiet_step (((go_at_call 16; exact grow_same (HGE.out _ (below_then HB.out (by (repeat (first | exact Below.refl _ _ | assumption | with_reducible refine below_alloc ?_ _ | with_reducible refine below_grow ?_ _ | with_reducible refine below_drewN ?_ _ | with_reducible refine below_drew ?_ | with_reducible refine below_setCell ?_ (by first | (dsimp only; omega) | (simp; done) | (simp; omega)) _)))))))))); refine wpQuiet_nil ?_; intro _ hw'; obtain ⟨gq, hw''⟩ := hw'; subst hw'')
        have hbq := (grow_below wr gq).size
        go_wp2_with ((at_builtin; refine wpList_append_src _ rfl (.tmp 56) (.tmp 57) _ rfl w.heap.size 25 i0 _ 2 32 Try.underlying22 hi0 hz00 hz01 hz02 rfl (by decide) _ 1 (Ent.cells x) rfl (own_one _ (Ent.cells x) _ _ (by omega)) _ k ((l.take k).reverse.flatMap Ent.cells) rfl (HO.out.1) (((HO.out.below (by (repeat (first | exact Below.refl _ _ | assumption | with_reducible refine below_alloc ?_ _ | with_reducible refine below_grow ?_ _ | with_reducible refine below_drewN ?_ _ | with_reducible refine below_drew ?_ | with_reducible refine below_setCell ?_ (by first | (dsimp only; omega) | (simp; done) | (simp; omega)) _)))).sl ent_len (by rw [List.length_reverse, List.length_take]; omega)).src' ent_len (by rw [List.length_reverse, List.length_take]; omega)) ent_one (by unfold maxLen; omega) (by omega) (by first | (simp; done) | omega | (simp; omega)) ?_; intro v2 w2 hown2 hg2 hat2 hty2; have HTY2 := Lib.hid hty2; clear hty2); have HO2 := Lib.hid hown2; have HB2 := Lib.hid (below_keeps (below_then HB.out (below_alloc (grow_below wr gq) _)) hg2 (fun k hk => hk.2)); clear hown2 hg2 hat2)
        go_roundw
        case rel =>
          have hsn : l.take (k + 1) = l.take k ++ [x] := by
            obtain ⟨h1, rfl⟩ := List.getElem?_eq_some_iff.1 HXM.out
            exact List.take_succ_eq_append_getElem h1
          refine ⟨k + 1, v2, rfl, by omega, by go_num, ?_, HB2.out, ?_, fun j y hj hjk => ?_⟩
          · show Own _ _ _ _ _ _
            rw [hsn, List.reverse_append, List.flatMap_append]
            simpa [Nat.add_comm] using HO2.out
          · show List.Pairwise _ _
            rw [hsn]
            exact List.pairwise_append.2 ⟨HD.out, List.pairwise_singleton _ _, fun a ha b hb => by simp at hb; subst hb; exact HFD.out a hg ha⟩
          · by_cases e : j = k
            · subst e; rw [HXM.out] at hj; cases hj; exact HNX.out
            · exact HN.out j y hj (by omega)
        case measure => simp [intOf]; omega
    · have hk2 : k = l.length := by omega
      subst hk2
      have d0 := no hlt
      have HNA := Lib.hid (show ∀ e ∈ l, e.name.length ≤ 1073741824 ∧ e.val.length ≤ 65536 from fun e he => by
        obtain ⟨j, hj⟩ := List.mem_iff_getElem?.1 he
        have := HN.out j e hj (by have := (List.getElem?_eq_some_iff.1 hj).1; omega)
        omega)
      have hd := HD.out
      have ho := HO.out
      rw [List.take_length] at hd ho
      have HO2 := Lib.hid ho
      have HRV := Lib.hid (ofL_rev kind l hd)
      clear hlt hd ho HO HD HN
      by_cases hbad : kind < 1 ∨ 4 < kind
      · have HOB := Lib.hid fun u W => of_bad kind u W hbad
        by_cases h3 : kind < 1
        · clear hbad
          go_wp2_with (go_at_call 11; refine (HOB.out _ _).mono ?_; rintro e w' ⟨rfl, rfl⟩)
          go_ret
          exact ⟨rfl, HB.out⟩
        · have h4 : 4 < kind := by omega
          have h5 := no h3
          clear hbad h3
          go_wp2_with (go_at_call 11; refine (HOB.out _ _).mono ?_; rintro e w' ⟨rfl, rfl⟩)
          go_ret
          exact ⟨rfl, HB.out⟩
      have h3 := no (show ¬ kind < 1 by omega)
      have h4 := no (show ¬ 4 < kind by omega)
      have HOF := Lib.hid fun l u W hu hl hn => of_ok kind l u W (by omega) (by omega) hu hl hn
      have hol := ofL_len kind l
      clear hbad
      go_wp2_with (first
        | (go_at_call 11; (with_reducible refine (HOF.out l _ _ (HV.out.below HB.out) (by omega) HNA.out).mono ?_); rintro e w2 ⟨rfl, ⟨lv, ht⟩, hb⟩; have HT := Lib.hid ht; have HO3 := Lib.hid (HO2.out.below hb); have HB2 := Lib.hid (below_then HB.out hb); clear ht hb)
        | (go_at_call 11; (with_reducible refine (HOF.out l.reverse _ _ (HO3.out.sl ent_len (by rw [List.length_reverse])) (by rw [List.length_reverse]; omega) (fun e he => HNA.out e (List.mem_reverse.1 he))).mono ?_); rintro e w3 ⟨rfl, ⟨lv3, ht⟩, hb⟩; rw [HRV.out] at ht; have HT3 := Lib.hid ht; have HT2 := Lib.hid (HT.out.below hb); have HB3 := Lib.hid (below_then HB2.out hb); clear ht hb)
        | (go_at_call 17; refine (all_any _ _ _ _ _ _ (by omega) HT3.out).mono ?_; rintro e w4 ⟨v4, rfl, ho, hb⟩; have HO4 := Lib.hid ho; have HT4 := Lib.hid (HT2.out.below hb); have HB4 := Lib.hid (below_then HB3.out hb); clear ho hb)
        | (go_at_call 13; refine (right_yes _ _ _ _ _ _ _ (by omega) HT4.out (HO4.out.sl ent_len rfl)).mono ?_; rintro e w5 ⟨rfl, hb⟩; have HB5 := Lib.hid (below_then HB4.out hb); clear hb))
      go_ret
      exact ⟨rfl, HB5.out⟩
end Go.Proofs.Ytkllgikmlgponaa.tablesOrder
