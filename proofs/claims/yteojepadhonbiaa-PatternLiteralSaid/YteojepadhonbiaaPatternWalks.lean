/-
  The walks of the laws PatternParses, PatternMatches, but for their statements: each returns true, whatever its arguments. Conditions: the library's variable MaxLen holds some number.
-/
import Derived.Test.YteojepadhonbiaaPat19
import Derived.Test.YteojepadhonbiaaPatEq
import Derived.Test.YteojepadhonbiaaOpen
namespace Go.Proofs.Yteojepadhonbiaa
open Go.ChangeShapes Go.WideShapes Go.Deep Go.ChangeAt Go.RowKit Pat
set_option maxRecDepth 100000
theorem awake16 (w : World) (hm : MaxL w) : Calls Try.prog 32 #[] w fun e w' => e = .returned (.bool true) ∧ Below w.heap.size w w' := by
  have h1 := fun w hm => match_all [91, 33, 97, 45, 99, 93, 42] [100, 120] w hm (by decide) (by decide)
  have h2 := fun w hm => match_all [91, 33, 97, 45, 99, 93, 42] [98] w hm (by decide) (by decide)
  rw [show gm (parse [91, 33, 97, 45, 99, 93, 42]) [100, 120] = true by decide +kernel] at h1
  rw [show gm (parse [91, 33, 97, 45, 99, 93, 42]) [98] = false by decide +kernel] at h2
  have H1 := Lib.hid h1
  have H2 := Lib.hid h2
  have HM := Lib.hid hm
  clear h1 h2 hm
  go_enter Try.func32, Try.ntmps32
  go_wp2_with (first | (go_at_call 35; (with_reducible refine (H1.out _ (HM.out.below (by (repeat (first | with_reducible exact Below.refl _ _ | with_reducible assumption | with_reducible refine below_alloc ?_ _ | with_reducible refine below_grow ?_ _ | with_reducible refine below_drewN ?_ _ | with_reducible refine below_drew ?_ | with_reducible refine below_setCell ?_ (by first | (dsimp only; omega) | (simp; done) | (simp; omega)) _))))).mono ?_); rintro e w' ⟨rfl, hb⟩; obtain ⟨g, rfl⟩ := to_grow hb; clear hb) | (go_at_call 35; (with_reducible refine (H2.out _ (HM.out.below (by (repeat (first | with_reducible exact Below.refl _ _ | with_reducible assumption | with_reducible refine below_alloc ?_ _ | with_reducible refine below_grow ?_ _ | with_reducible refine below_drewN ?_ _ | with_reducible refine below_drew ?_ | with_reducible refine below_setCell ?_ (by first | (dsimp only; omega) | (simp; done) | (simp; omega)) _))))).mono ?_); rintro e w' ⟨rfl, hb⟩; obtain ⟨g2, rfl⟩ := to_grow hb; clear hb))
  go_ret
  exact ⟨rfl, by (repeat (first | with_reducible exact Below.refl _ _ | with_reducible assumption | with_reducible refine below_alloc ?_ _ | with_reducible refine below_grow ?_ _ | with_reducible refine below_drewN ?_ _ | with_reducible refine below_drew ?_ | with_reducible refine below_setCell ?_ (by first | (dsimp only; omega) | (simp; done) | (simp; omega)) _))⟩
set_option maxHeartbeats 1600000 in
theorem patternParses.walk {H : Type} (enc : TypeId × Value → H) (w : World) (base : Nat) (hm : MaxL w) {v0 : Value} {d0 : DataW H} {p0 : List MemPlace}
    (h0 : DataW.Trod enc Try.prog w 0 (fun _ => true) true 9 v0 d0 p0) (k0 : Value.okWide Try.prog w .any base 9 v0) :
    Calls Try.prog 7 #[v0] w fun e w' => e = .returned (.bool true) ∧ Below w.heap.size w w' := by
  obtain ⟨p, rfl, hp⟩ := open_text h0 k0
  clear h0 k0
  have HAW := Lib.hid fun w hm => awake16 w hm
  have HM := Lib.hid hm
  clear hm
  by_cases hl : 60 < p.length
  · go_enter Try.func7, Try.ntmps7
    go_wp2_with (go_at_call 32; refine (HAW.out _ HM.out).mono ?_; rintro e w' ⟨rfl, hb⟩; obtain ⟨g, rfl⟩ := to_grow hb; clear hb)
    go_ret
    exact ⟨rfl, by (repeat (first | with_reducible exact Below.refl _ _ | with_reducible assumption | with_reducible refine below_alloc ?_ _ | with_reducible refine below_grow ?_ _ | with_reducible refine below_drewN ?_ _ | with_reducible refine below_drew ?_ | with_reducible refine below_setCell ?_ (by first | (dsimp only; omega) | (simp; done) | (simp; omega)) _))⟩
  have d1 := no (show ¬ (60 : Int) < (p.length : Int) by omega)
  have hpl := parse_len p
  have HP := Lib.hid fun w hm => parse_any p w hm (by omega)
  have HR := Lib.hid fun w => parse_ref p w (by omega)
  clear hl
  go_enter Try.func7, Try.ntmps7
  go_wp2_with (first | (go_at_call 32; refine (HAW.out _ HM.out).mono ?_; rintro e w' ⟨rfl, hb⟩; obtain ⟨g, rfl⟩ := to_grow hb; clear hb) | (go_at_call 33; refine (HP.out _ (HM.out.below (by (repeat (first | with_reducible exact Below.refl _ _ | with_reducible assumption | with_reducible refine below_alloc ?_ _ | with_reducible refine below_grow ?_ _ | with_reducible refine below_drewN ?_ _ | with_reducible refine below_drew ?_ | with_reducible refine below_setCell ?_ (by first | (dsimp only; omega) | (simp; done) | (simp; omega)) _))))).mono ?_; rintro e w1 ⟨v, rfl, hv, hb⟩; have HV := Lib.hid hv; obtain ⟨g1, rfl⟩ := to_grow hb; clear hv hb; obtain ⟨A1, c1, rfl, hA1⟩ := HV.out; clear hA1) | (go_at_call 34; refine (HR.out _).mono ?_; rintro e w1 ⟨u, rfl, hu, hb⟩; have HU := Lib.hid hu; have HV2 := Lib.hid (HV.out.below hb); obtain ⟨g2, rfl⟩ := to_grow hb; clear hu hb; obtain ⟨A2, c2, rfl, hA2⟩ := HU.out; clear hA2))
  go_loopw [5] (fun i w' => ∃ k : Nat, k ≤ (parse p).length ∧ i = .int .i64 k ∧ Hid (Sl w' atC 6 (.slice A1 (parse p).length c1) (parse p)) ∧ Hid (Sl w' atC 6 (.slice A2 (parse p).length c2) (parse p)) ∧ Below w.heap.size w w') (fun i _ => (parse p).length - (intOf i).toNat)
  case atStart => exact ⟨0, by omega, rfl, HV2.out, HU.out, by (repeat (first | exact Below.refl _ _ | assumption | with_reducible refine below_alloc ?_ _ | with_reducible refine below_grow ?_ _ | with_reducible refine below_drewN ?_ _ | with_reducible refine below_drew ?_ | with_reducible refine below_setCell ?_ (by first | (dsimp only; omega) | (simp; done) | (simp; omega)) _))⟩
  case round =>
    clear HV HV2 HU
    obtain ⟨k, hk, rfl, HV, HU, hb⟩ := hrel
    generalize parse p = l at *
    by_cases hkl : k < l.length
    · obtain ⟨A1', c1', e1, -, -, -, h1⟩ := HV.out
      obtain ⟨A2', c2', e2, -, -, -, h2⟩ := HU.out
      obtain ⟨g1, o1, rfl, hg1, hc1⟩ := h1 (by omega)
      obtain ⟨g2, o2, rfl, hg2, hc2⟩ := h2 (by omega)
      cases e1
      cases e2
      have f := hc1 k _ (List.getElem?_eq_getElem hkl)
      have f' := hc2 k _ (List.getElem?_eq_getElem hkl)
      have a0 := f 0 _ rfl
      have a1 := f 1 _ rfl
      have a2 := f 2 _ rfl
      have a3 := f 3 _ rfl
      have a4 := f 4 _ rfl
      have a5 := f 5 _ rfl
      have b0 := f' 0 _ rfl
      have b1 := f' 1 _ rfl
      have b2 := f' 2 _ rfl
      have b3 := f' 3 _ rfl
      have b4 := f' 4 _ rfl
      have b5 := f' 5 _ rfl
      simp only [Nat.add_zero] at a0 b0
      haveI : Old wr g1 := ⟨hg1⟩
      haveI : Old wr g2 := ⟨hg2⟩
      have i0 : (0 : Int) ≤ (k : Int) := by omega
      have i1 : (k : Int) < (l.length : Int) := by omega
      clear f f' hc1 hc2 h1 h2
      generalize l[k] = a at *
      have hne := neq_atom a.kind a.byt.toNat (wordOf a.fs 0) (wordOf a.fs 1) (wordOf a.fs 2) (wordOf a.fs 3)
      go_wp2
      go_quiet (fail)
      clear a0 a1 a2 a3 a4 a5 b0 b1 b2 b3 b4 b5
      go_wp2
      go_roundw
      case rel => exact ⟨k + 1, by omega, by go_num, HV.out.below (below_drewN (Below.refl _ _) _), HU.out.below (below_drewN (Below.refl _ _) _), below_drewN hb _⟩
      case measure => simp [intOf]; omega
    · have d0 := no hkl
      go_wp2
      go_ret
      exact ⟨rfl, hb⟩
theorem patternMatches.walk {H : Type} (enc : TypeId × Value → H) (w : World) (base : Nat) (hm : MaxL w) {v0 v1 : Value} {d0 d1 : DataW H} {p0 p1 : List MemPlace}
    (h0 : DataW.Trod enc Try.prog w 0 (fun _ => true) true 9 v0 d0 p0) (k0 : Value.okWide Try.prog w .any base 9 v0)
    (h1 : DataW.Trod enc Try.prog w 0 (fun _ => true) true 9 v1 d1 p1) (k1 : Value.okWide Try.prog w .any base 9 v1) :
    Calls Try.prog 8 #[v0, v1] w fun e w' => e = .returned (.bool true) ∧ Below w.heap.size w w' := by
  obtain ⟨p, rfl, hp⟩ := open_text h0 k0
  obtain ⟨s, rfl, hs⟩ := open_text h1 k1
  clear h0 k0 h1 k1
  have HAW := Lib.hid fun w hm => awake16 w hm
  have HM := Lib.hid hm
  clear hm
  by_cases hl : 60 < p.length
  · go_enter Try.func8, Try.ntmps8
    go_wp2_with (go_at_call 32; refine (HAW.out _ HM.out).mono ?_; rintro e w' ⟨rfl, hb⟩; obtain ⟨g, rfl⟩ := to_grow hb; clear hb)
    go_ret
    exact ⟨rfl, by (repeat (first | with_reducible exact Below.refl _ _ | with_reducible assumption | with_reducible refine below_alloc ?_ _ | with_reducible refine below_grow ?_ _ | with_reducible refine below_drewN ?_ _ | with_reducible refine below_drew ?_ | with_reducible refine below_setCell ?_ (by first | (dsimp only; omega) | (simp; done) | (simp; omega)) _))⟩
  have d1 := no (show ¬ (60 : Int) < (p.length : Int) by omega)
  by_cases hl2 : 60 < s.length
  · clear hl
    go_enter Try.func8, Try.ntmps8
    go_wp2_with (go_at_call 32; refine (HAW.out _ HM.out).mono ?_; rintro e w' ⟨rfl, hb⟩; obtain ⟨g, rfl⟩ := to_grow hb; clear hb)
    go_ret
    exact ⟨rfl, by (repeat (first | with_reducible exact Below.refl _ _ | with_reducible assumption | with_reducible refine below_alloc ?_ _ | with_reducible refine below_grow ?_ _ | with_reducible refine below_drewN ?_ _ | with_reducible refine below_drew ?_ | with_reducible refine below_setCell ?_ (by first | (dsimp only; omega) | (simp; done) | (simp; omega)) _))⟩
  have d2 := no (show ¬ (60 : Int) < (s.length : Int) by omega)
  have hpl := parse_len p
  have HP := Lib.hid fun w hm => match_all p s w hm (by omega) (by omega)
  have HR := Lib.hid fun w => parse_ref p w (by omega)
  have HMR := Lib.hid fun v w hv => match_ref (parse p) s v w hv (by omega) (by omega)
  clear hl hl2
  go_enter Try.func8, Try.ntmps8
  go_wp2_with (first | (go_at_call 32; refine (HAW.out _ HM.out).mono ?_; rintro e w' ⟨rfl, hb⟩; obtain ⟨g, rfl⟩ := to_grow hb; clear hb) | (go_at_call 35; refine (HP.out _ (HM.out.below (by (repeat (first | with_reducible exact Below.refl _ _ | with_reducible assumption | with_reducible refine below_alloc ?_ _ | with_reducible refine below_grow ?_ _ | with_reducible refine below_drewN ?_ _ | with_reducible refine below_drew ?_ | with_reducible refine below_setCell ?_ (by first | (dsimp only; omega) | (simp; done) | (simp; omega)) _))))).mono ?_; rintro e w' ⟨rfl, hb⟩; obtain ⟨g, rfl⟩ := to_grow hb; clear hb) | (go_at_call 34; refine (HR.out _).mono ?_; rintro e w1 ⟨u, rfl, hu, hb⟩; have HU := Lib.hid hu; obtain ⟨g2, rfl⟩ := to_grow hb; clear hu hb) | (go_at_call 36; refine (HMR.out _ _ HU.out).mono ?_; rintro e w3 ⟨rfl, hb⟩; have HB3 := Lib.hid hb; clear hb))
  go_ret
  exact ⟨Pat.ret_b (by simp), below_then (by (repeat (first | with_reducible exact Below.refl _ _ | with_reducible assumption | with_reducible refine below_alloc ?_ _ | with_reducible refine below_grow ?_ _ | with_reducible refine below_drewN ?_ _ | with_reducible refine below_drew ?_ | with_reducible refine below_setCell ?_ (by first | (dsimp only; omega) | (simp; done) | (simp; omega)) _))) HB3.out⟩
end Go.Proofs.Yteojepadhonbiaa
