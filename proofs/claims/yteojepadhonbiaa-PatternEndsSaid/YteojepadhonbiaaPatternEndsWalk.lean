/-
  The walk of the law PatternEnds: it returns true, whatever its arguments. Conditions: the library's variable MaxLen holds some number.
-/
import Derived.Test.YteojepadhonbiaaPat20
import Derived.Test.YteojepadhonbiaaPatternWalks
namespace Go.Proofs.Yteojepadhonbiaa.patternEnds
open Go.ChangeShapes Go.WideShapes Go.Deep Go.ChangeAt Go.RowKit Pat
set_option maxRecDepth 100000
theorem num_at {w : World} {A : Option Addr} {c k : Nat} {xs : List Int} {x : Int} (h : Sl w numC 1 (.slice A xs.length c) xs) (hx : xs[k]? = some x) : ∃ b off, A = some ⟨b, off, none⟩ ∧ b < w.heap.size ∧ w.cell? ⟨b, off + k, none⟩ = some (.int .i64 x) ∧ k < xs.length := by
  obtain ⟨A', c', e, _, _, _, h4⟩ := h
  cases e
  have hk := (List.getElem?_eq_some_iff.1 hx).1
  obtain ⟨b, off, rfl, hlt, hc⟩ := h4 (by omega)
  have := hc k x hx 0 _ rfl
  exact ⟨b, off, rfl, hlt, by simpa using this, hk⟩
set_option maxHeartbeats 6400000 in
theorem walk {H : Type} (enc : TypeId × Value → H) (w : World) (base : Nat) (hm : MaxL w) {v0 v1 : Value} {d0 d1 : DataW H} {p0 p1 : List MemPlace}
    (h0 : DataW.Trod enc Try.prog w 0 (fun _ => true) true 9 v0 d0 p0) (k0 : Value.okWide Try.prog w .any base 9 v0)
    (h1 : DataW.Trod enc Try.prog w 0 (fun _ => true) true 9 v1 d1 p1) (k1 : Value.okWide Try.prog w .any base 9 v1) :
    Calls Try.prog 9 #[v0, v1] w fun e w' => e = .returned (.bool true) ∧ Below w.heap.size w w' := by
  obtain ⟨p, rfl, hp⟩ := open_text h0 k0
  obtain ⟨s, rfl, hs⟩ := open_text h1 k1
  clear h0 k0 h1 k1
  have HAW := Lib.hid fun w hm => awake16 w hm
  have HM := Lib.hid hm
  clear hm
  by_cases hl : 40 < p.length
  · go_enter Try.func9, Try.ntmps9
    go_wp2_with (go_at_call 32; refine (HAW.out _ HM.out).mono ?_; rintro e w' ⟨rfl, hb⟩; obtain ⟨g, rfl⟩ := to_grow hb; clear hb)
    go_ret
    exact ⟨rfl, by (repeat (first | with_reducible exact Below.refl _ _ | with_reducible assumption | with_reducible refine below_alloc ?_ _ | with_reducible refine below_grow ?_ _ | with_reducible refine below_drewN ?_ _ | with_reducible refine below_drew ?_ | with_reducible refine below_setCell ?_ (by first | (dsimp only; omega) | (simp; done) | (simp; omega)) _))⟩
  have d1 := no (show ¬ (40 : Int) < (p.length : Int) by omega)
  by_cases hl2 : 40 < s.length
  · clear hl
    go_enter Try.func9, Try.ntmps9
    go_wp2_with (go_at_call 32; refine (HAW.out _ HM.out).mono ?_; rintro e w' ⟨rfl, hb⟩; obtain ⟨g, rfl⟩ := to_grow hb; clear hb)
    go_ret
    exact ⟨rfl, by (repeat (first | with_reducible exact Below.refl _ _ | with_reducible assumption | with_reducible refine below_alloc ?_ _ | with_reducible refine below_grow ?_ _ | with_reducible refine below_drewN ?_ _ | with_reducible refine below_drew ?_ | with_reducible refine below_setCell ?_ (by first | (dsimp only; omega) | (simp; done) | (simp; omega)) _))⟩
  have d2 := no (show ¬ (40 : Int) < (s.length : Int) by omega)
  have hpl := parse_len p
  have hs40 : s.length ≤ 40 := by omega
  have hp40 : p.length ≤ 40 := by omega
  have HR := Lib.hid fun w => parse_ref p w (by omega)
  have HH := Lib.hid fun w hm => heads_any p s w hm (by omega) (by omega)
  have HT := Lib.hid fun w hm => tails_any p s w hm (by omega) (by omega)
  have HMT := Lib.hid fun n v w hv => match_ref (parse p) (s.take n) v w hv (by omega) (by simp; omega)
  have HMD := Lib.hid fun n v w hv => match_ref (parse p) (s.drop n) v w hv (by omega) (by simp; omega)
  clear hl hl2
  go_enter Try.func9, Try.ntmps9
  go_wp2_with (first
    | (go_at_call 32; refine (HAW.out _ HM.out).mono ?_; rintro e w' ⟨rfl, hb⟩; obtain ⟨g, rfl⟩ := to_grow hb; clear hb)
    | (go_at_call 34; refine (HR.out _).mono ?_; rintro e w1 ⟨u, rfl, hu, hb⟩; have HU := Lib.hid hu; obtain ⟨g2, rfl⟩ := to_grow hb; clear hu hb)
    | (go_at_call 37; refine (HH.out _ (HM.out.below (by (repeat (first | with_reducible exact Below.refl _ _ | with_reducible assumption | with_reducible refine below_alloc ?_ _ | with_reducible refine below_grow ?_ _ | with_reducible refine below_drewN ?_ _ | with_reducible refine below_drew ?_ | with_reducible refine below_setCell ?_ (by first | (dsimp only; omega) | (simp; done) | (simp; omega)) _))))).mono ?_; rintro e w1 ⟨vh, rfl, ho, hb⟩; have HVH := Lib.hid (ho.sl numC_len rfl); have HU2 := Lib.hid (HU.out.below hb); obtain ⟨g3, rfl⟩ := to_grow hb; obtain ⟨A3, c3, rfl, -⟩ := HVH.out; clear ho hb)
    | (go_at_call 38; refine (HT.out _ (HM.out.below (by (repeat (first | with_reducible exact Below.refl _ _ | with_reducible assumption | with_reducible refine below_alloc ?_ _ | with_reducible refine below_grow ?_ _ | with_reducible refine below_drewN ?_ _ | with_reducible refine below_drew ?_ | with_reducible refine below_setCell ?_ (by first | (dsimp only; omega) | (simp; done) | (simp; omega)) _))))).mono ?_; rintro e w1 ⟨vt, rfl, ho, hb⟩; have HVT := Lib.hid (ho.sl numC_len rfl); have HU3 := Lib.hid (HU2.out.below hb); have HVH2 := Lib.hid (HVH.out.below hb); obtain ⟨g4, rfl⟩ := to_grow hb; obtain ⟨A4, c4, rfl, -⟩ := HVT.out; clear ho hb))
  clear d1 d2
  have hlh := evs_len (fun n => gm (parse p) (s.take n)) (s.length + 1)
  have hlt := evs_len (fun n => gm (parse p) (s.drop n)) (s.length + 1)
  have HHA := Lib.hid fun k hx hk => evs_at (f := fun n => gm (parse p) (s.take n)) (k := k) (n := s.length + 1) hx hk
  have HTA := Lib.hid fun k hx hk => evs_at (f := fun n => gm (parse p) (s.drop n)) (k := k) (n := s.length + 1) hx hk
  have HHY := Lib.hid fun k hx => evs_yes (f := fun n => gm (parse p) (s.take n)) (k := k) hx
  have HHN := Lib.hid fun k hx => evs_no (f := fun n => gm (parse p) (s.take n)) (k := k) hx
  have HTY := Lib.hid fun k hx => evs_yes (f := fun n => gm (parse p) (s.drop n)) (k := k) hx
  have HTN := Lib.hid fun k hx => evs_no (f := fun n => gm (parse p) (s.drop n)) (k := k) hx
  have HLH := Lib.hid fun k => evs_len (fun n => gm (parse p) (s.take n)) k
  have HLT := Lib.hid fun k => evs_len (fun n => gm (parse p) (s.drop n)) k
  have HA0 : Hid (0 = (evs (fun n => gm (parse p) (s.take n)) 0).length) := rfl
  have HB0 : Hid (0 = (evs (fun n => gm (parse p) (s.drop n)) 0).length) := rfl
  generalize evs (fun n => gm (parse p) (s.take n)) = EH at *
  generalize evs (fun n => gm (parse p) (s.drop n)) = ET at *
  go_loopw [8, 9, 10] (fun a b i w' => ∃ k : Nat, k ≤ s.length + 1 ∧ a = .int .i64 (EH k).length ∧ b = .int .i64 (ET k).length ∧ i = .int .i64 k ∧ Hid (Sl w' atC 6 u (parse p)) ∧ Hid (Sl w' numC 1 (.slice A3 (EH (s.length + 1)).length c3) (EH (s.length + 1))) ∧ Hid (Sl w' numC 1 (.slice A4 (ET (s.length + 1)).length c4) (ET (s.length + 1))) ∧ Below w.heap.size w w') (fun _ _ i _ => s.length + 1 - (intOf i).toNat)
  case atStart => exact ⟨0, by omega, by rw [← HA0.out]; rfl, by rw [← HB0.out]; rfl, rfl, HU3.out, HVH2.out, HVT.out, by (repeat (first | exact Below.refl _ _ | assumption | with_reducible refine below_alloc ?_ _ | with_reducible refine below_grow ?_ _ | with_reducible refine below_drewN ?_ _ | with_reducible refine below_drew ?_ | with_reducible refine below_setCell ?_ (by first | (dsimp only; omega) | (simp; done) | (simp; omega)) _))⟩
  case round =>
    clear HU HU2 HU3 HVH HVH2 HVT
    obtain ⟨k, hk, rfl, rfl, rfl, HU, HVH, HVT, hb⟩ := hrel
    by_cases hkl : k ≤ s.length
    rotate_left
    · have hk2 : k = s.length + 1 := by omega
      subst hk2
      have d0 := no (show ¬ s.length + 1 ≤ s.length by omega)
      have d1 := no (show ¬ (s.length : Int) + 1 ≤ (s.length : Int) by omega)
      clear hkl
      go_wp2
      go_ret
      exact ⟨rfl, hb⟩
    have k0 : (0 : Int) ≤ (k : Int) := by omega
    have k1 : (k : Int) ≤ (s.length : Int) := by omega
    have hl1 := HLH.out k
    have hl2 := HLT.out k
    cases hx : gm (parse p) (s.take k) with
    | true => cases hy : gm (parse p) (s.drop k) with
      | true =>
        have HMT2 := Lib.hid fun v w hv => HMT.out k v w hv
        have HMD2 := Lib.hid fun v w hv => HMD.out k v w hv
        rw [hx] at HMT2
        rw [hy] at HMD2
        have HEH := Lib.hid (HHY.out k hx)
        have hxa := HHA.out k hx (by omega)
        have hxl := (List.getElem?_eq_some_iff.1 hxa).1
        have HXA := Lib.hid hxa
        have dx := no (show ¬ (EH (s.length + 1)).length ≤ (EH k).length by omega)
        have x0 : (0 : Int) ≤ ((EH k).length : Int) := by omega
        have x1 : ((EH k).length : Int) < ((EH (s.length + 1)).length : Int) := by omega
        clear hxa
        have HET := Lib.hid (HTY.out k hy)
        have hya := HTA.out k hy (by omega)
        have hyl := (List.getElem?_eq_some_iff.1 hya).1
        have HYA := Lib.hid hya
        have dy := no (show ¬ (ET (s.length + 1)).length ≤ (ET k).length by omega)
        have y0 : (0 : Int) ≤ ((ET k).length : Int) := by omega
        have y1 : ((ET k).length : Int) < ((ET (s.length + 1)).length : Int) := by omega
        clear hya
        have hne : ((k : Int) != (k : Int)) = false := by simp
        clear hx hy
        go_wp2_with (first
          | (go_at_call 36; (with_reducible refine (HMT2.out u _ HU.out).mono ?_); rintro e w2 ⟨rfl, hb2⟩; have HU4 := Lib.hid (HU.out.below hb2); have HVH4 := Lib.hid (HVH.out.below hb2); have HVT4 := Lib.hid (HVT.out.below hb2); have HB4 := Lib.hid (below_then hb hb2); clear hb2; obtain ⟨bh, oh, rfl, hbh, ch, -⟩ := num_at HVH4.out HXA.out; haveI : Old w2 bh := ⟨hbh⟩)
          | (go_at_call 36; (with_reducible refine (HMD2.out u _ HU4.out).mono ?_); rintro e w3 ⟨rfl, hb2⟩; have HU5 := Lib.hid (HU4.out.below hb2); have HVH5 := Lib.hid (HVH4.out.below hb2); have HVT5 := Lib.hid (HVT4.out.below hb2); have HB5 := Lib.hid (below_then HB4.out hb2); clear hb2; obtain ⟨bt, ot, rfl, hbt, ct, -⟩ := num_at HVT5.out HYA.out; haveI : Old w3 bt := ⟨hbt⟩))
        go_roundw
        case rel => exact ⟨k + 1, by omega, by rw [HEH.out]; simp, by rw [HET.out]; simp, by go_num, HU5.out, HVH5.out, HVT5.out, HB5.out⟩
        case measure => simp [intOf]; omega
      | false =>
        have HMT2 := Lib.hid fun v w hv => HMT.out k v w hv
        have HMD2 := Lib.hid fun v w hv => HMD.out k v w hv
        rw [hx] at HMT2
        rw [hy] at HMD2
        have HEH := Lib.hid (HHY.out k hx)
        have hxa := HHA.out k hx (by omega)
        have hxl := (List.getElem?_eq_some_iff.1 hxa).1
        have HXA := Lib.hid hxa
        have dx := no (show ¬ (EH (s.length + 1)).length ≤ (EH k).length by omega)
        have x0 : (0 : Int) ≤ ((EH k).length : Int) := by omega
        have x1 : ((EH k).length : Int) < ((EH (s.length + 1)).length : Int) := by omega
        clear hxa
        have HET := Lib.hid (HTN.out k hy)
        have hne : ((k : Int) != (k : Int)) = false := by simp
        clear hx hy
        go_wp2_with (first
          | (go_at_call 36; (with_reducible refine (HMT2.out u _ HU.out).mono ?_); rintro e w2 ⟨rfl, hb2⟩; have HU4 := Lib.hid (HU.out.below hb2); have HVH4 := Lib.hid (HVH.out.below hb2); have HVT4 := Lib.hid (HVT.out.below hb2); have HB4 := Lib.hid (below_then hb hb2); clear hb2; obtain ⟨bh, oh, rfl, hbh, ch, -⟩ := num_at HVH4.out HXA.out; haveI : Old w2 bh := ⟨hbh⟩)
          | (go_at_call 36; (with_reducible refine (HMD2.out u _ HU4.out).mono ?_); rintro e w3 ⟨rfl, hb2⟩; have HU5 := Lib.hid (HU4.out.below hb2); have HVH5 := Lib.hid (HVH4.out.below hb2); have HVT5 := Lib.hid (HVT4.out.below hb2); have HB5 := Lib.hid (below_then HB4.out hb2); clear hb2; skip))
        go_roundw
        case rel => exact ⟨k + 1, by omega, by rw [HEH.out]; simp, by rw [HET.out], by go_num, HU5.out, HVH5.out, HVT5.out, HB5.out⟩
        case measure => simp [intOf]; omega
    | false => cases hy : gm (parse p) (s.drop k) with
      | true =>
        have HMT2 := Lib.hid fun v w hv => HMT.out k v w hv
        have HMD2 := Lib.hid fun v w hv => HMD.out k v w hv
        rw [hx] at HMT2
        rw [hy] at HMD2
        have HEH := Lib.hid (HHN.out k hx)
        have HET := Lib.hid (HTY.out k hy)
        have hya := HTA.out k hy (by omega)
        have hyl := (List.getElem?_eq_some_iff.1 hya).1
        have HYA := Lib.hid hya
        have dy := no (show ¬ (ET (s.length + 1)).length ≤ (ET k).length by omega)
        have y0 : (0 : Int) ≤ ((ET k).length : Int) := by omega
        have y1 : ((ET k).length : Int) < ((ET (s.length + 1)).length : Int) := by omega
        clear hya
        have hne : ((k : Int) != (k : Int)) = false := by simp
        clear hx hy
        go_wp2_with (first
          | (go_at_call 36; (with_reducible refine (HMT2.out u _ HU.out).mono ?_); rintro e w2 ⟨rfl, hb2⟩; have HU4 := Lib.hid (HU.out.below hb2); have HVH4 := Lib.hid (HVH.out.below hb2); have HVT4 := Lib.hid (HVT.out.below hb2); have HB4 := Lib.hid (below_then hb hb2); clear hb2; skip)
          | (go_at_call 36; (with_reducible refine (HMD2.out u _ HU4.out).mono ?_); rintro e w3 ⟨rfl, hb2⟩; have HU5 := Lib.hid (HU4.out.below hb2); have HVH5 := Lib.hid (HVH4.out.below hb2); have HVT5 := Lib.hid (HVT4.out.below hb2); have HB5 := Lib.hid (below_then HB4.out hb2); clear hb2; obtain ⟨bt, ot, rfl, hbt, ct, -⟩ := num_at HVT5.out HYA.out; haveI : Old w3 bt := ⟨hbt⟩))
        go_roundw
        case rel => exact ⟨k + 1, by omega, by rw [HEH.out], by rw [HET.out]; simp, by go_num, HU5.out, HVH5.out, HVT5.out, HB5.out⟩
        case measure => simp [intOf]; omega
      | false =>
        have HMT2 := Lib.hid fun v w hv => HMT.out k v w hv
        have HMD2 := Lib.hid fun v w hv => HMD.out k v w hv
        rw [hx] at HMT2
        rw [hy] at HMD2
        have HEH := Lib.hid (HHN.out k hx)
        have HET := Lib.hid (HTN.out k hy)
        have hne : ((k : Int) != (k : Int)) = false := by simp
        clear hx hy
        go_wp2_with (first
          | (go_at_call 36; (with_reducible refine (HMT2.out u _ HU.out).mono ?_); rintro e w2 ⟨rfl, hb2⟩; have HU4 := Lib.hid (HU.out.below hb2); have HVH4 := Lib.hid (HVH.out.below hb2); have HVT4 := Lib.hid (HVT.out.below hb2); have HB4 := Lib.hid (below_then hb hb2); clear hb2; skip)
          | (go_at_call 36; (with_reducible refine (HMD2.out u _ HU4.out).mono ?_); rintro e w3 ⟨rfl, hb2⟩; have HU5 := Lib.hid (HU4.out.below hb2); have HVH5 := Lib.hid (HVH4.out.below hb2); have HVT5 := Lib.hid (HVT4.out.below hb2); have HB5 := Lib.hid (below_then HB4.out hb2); clear hb2; skip))
        go_roundw
        case rel => exact ⟨k + 1, by omega, by rw [HEH.out], by rw [HET.out], by go_num, HU5.out, HVH5.out, HVT5.out, HB5.out⟩
        case measure => simp [intOf]; omega
end Go.Proofs.Yteojepadhonbiaa.patternEnds
