/-
  The walk of the law PatternBetween: it returns true, whatever its arguments. Conditions: the library's variable MaxLen holds some number.
-/
import Derived.Test.YteojepadhonbiaaPat22
import Derived.Test.YteojepadhonbiaaPatternWalks
namespace Go.Proofs.Yteojepadhonbiaa.patternBetween
open Go.ChangeShapes Go.WideShapes Go.Deep Go.ChangeAt Go.RowKit Pat
set_option maxRecDepth 100000
theorem btwn_self (a b s : List UInt8) : gm (parse (quote a ++ [42] ++ quote b)) (a ++ s ++ b) = true := by
  rw [parse_between, gm_between]
  refine ⟨by simp only [List.length_append]; omega, by simp, ?_⟩
  rw [show (a ++ s ++ b).length - b.length = (a ++ s).length by simp; omega, List.drop_left' rfl]
theorem btwn_yes {a b s : List UInt8} (h : a.length + b.length ≤ s.length) : gm (parse (quote a ++ [42] ++ quote b)) s = ((s.take a.length == a) && (s.drop (s.length - b.length) == b)) := by
  rw [parse_between, Bool.eq_iff_iff, gm_between, Bool.and_eq_true, beq_iff_eq, beq_iff_eq]
  exact ⟨fun h => h.2, fun h2 => ⟨h, h2⟩⟩
theorem btwn_no {a b s : List UInt8} (h : ¬ a.length + b.length ≤ s.length) : gm (parse (quote a ++ [42] ++ quote b)) s = false := by
  rw [parse_between, Bool.eq_false_iff]
  exact fun h2 => h ((gm_between _ _ _).1 h2).1
set_option maxHeartbeats 3200000 in
theorem walk {H : Type} (enc : TypeId × Value → H) (w : World) (base : Nat) (hm : MaxL w) {v0 v1 v2 : Value} {d0 d1 d2 : DataW H} {p0 p1 p2 : List MemPlace}
    (h0 : DataW.Trod enc Try.prog w 0 (fun _ => true) true 9 v0 d0 p0) (k0 : Value.okWide Try.prog w .any base 9 v0)
    (h1 : DataW.Trod enc Try.prog w 0 (fun _ => true) true 9 v1 d1 p1) (k1 : Value.okWide Try.prog w .any base 9 v1)
    (h2 : DataW.Trod enc Try.prog w 0 (fun _ => true) true 9 v2 d2 p2) (k2 : Value.okWide Try.prog w .any base 9 v2) :
    Calls Try.prog 12 #[v0, v1, v2] w fun e w' => e = .returned (.bool true) ∧ Below w.heap.size w w' := by
  obtain ⟨a, rfl, ha⟩ := open_text h0 k0
  obtain ⟨b, rfl, hb⟩ := open_text h1 k1
  obtain ⟨s, rfl, hs⟩ := open_text h2 k2
  clear h0 k0 h1 k1 h2 k2
  have HAW := Lib.hid fun w hm => awake16 w hm
  have HM := Lib.hid hm
  clear hm
  by_cases hl : 40 < a.length
  · go_enter Try.func12, Try.ntmps12
    go_wp2_with (go_at_call 32; refine (HAW.out _ HM.out).mono ?_; rintro e w' ⟨rfl, hb⟩; obtain ⟨g, rfl⟩ := to_grow hb; clear hb)
    go_ret
    exact ⟨rfl, by (repeat (first | with_reducible exact Below.refl _ _ | with_reducible assumption | with_reducible refine below_alloc ?_ _ | with_reducible refine below_grow ?_ _ | with_reducible refine below_drewN ?_ _ | with_reducible refine below_drew ?_ | with_reducible refine below_setCell ?_ (by first | (dsimp only; omega) | (simp; done) | (simp; omega)) _))⟩
  have e1 := no (show ¬ (40 : Int) < (a.length : Int) by omega)
  by_cases hl2 : 40 < b.length
  · clear hl
    go_enter Try.func12, Try.ntmps12
    go_wp2_with (go_at_call 32; refine (HAW.out _ HM.out).mono ?_; rintro e w' ⟨rfl, hb⟩; obtain ⟨g, rfl⟩ := to_grow hb; clear hb)
    go_ret
    exact ⟨rfl, by (repeat (first | with_reducible exact Below.refl _ _ | with_reducible assumption | with_reducible refine below_alloc ?_ _ | with_reducible refine below_grow ?_ _ | with_reducible refine below_drewN ?_ _ | with_reducible refine below_drew ?_ | with_reducible refine below_setCell ?_ (by first | (dsimp only; omega) | (simp; done) | (simp; omega)) _))⟩
  have e2 := no (show ¬ (40 : Int) < (b.length : Int) by omega)
  by_cases hl3 : 40 < s.length
  · clear hl hl2
    go_enter Try.func12, Try.ntmps12
    go_wp2_with (go_at_call 32; refine (HAW.out _ HM.out).mono ?_; rintro e w' ⟨rfl, hb⟩; obtain ⟨g, rfl⟩ := to_grow hb; clear hb)
    go_ret
    exact ⟨rfl, by (repeat (first | with_reducible exact Below.refl _ _ | with_reducible assumption | with_reducible refine below_alloc ?_ _ | with_reducible refine below_grow ?_ _ | with_reducible refine below_drewN ?_ _ | with_reducible refine below_drew ?_ | with_reducible refine below_setCell ?_ (by first | (dsimp only; omega) | (simp; done) | (simp; omega)) _))⟩
  have e3 := no (show ¬ (40 : Int) < (s.length : Int) by omega)
  have hqa := quote_len a
  have hqb := quote_len b
  have ha40 : a.length ≤ 40 := by omega
  have hb40 : b.length ≤ 40 := by omega
  have hs40 : s.length ≤ 40 := by omega
  have hqa2 : (quote a).length ≤ 80 := by omega
  have hqb2 : (quote b).length ≤ 80 := by omega
  have HQA := Lib.hid fun w => quote_any a w (by omega)
  have HQB := Lib.hid fun w => quote_any b w (by omega)
  have hm1 := fun w hm => match_all (quote a ++ [42] ++ quote b) (a ++ s ++ b) w hm (by simp; omega) (by simp; omega)
  rw [btwn_self] at hm1
  simp only [List.append_assoc, List.cons_append, List.nil_append] at hm1
  have HM1 := Lib.hid hm1
  clear hl hl2 hl3 hm1 hqa hqb
  by_cases hab : a.length + b.length ≤ s.length
  · have hm2 := fun w hm => match_all (quote a ++ [42] ++ quote b) s w hm (by simp; omega) (by omega)
    rw [btwn_yes hab] at hm2
    simp only [List.append_assoc, List.cons_append, List.nil_append] at hm2
    have HM2 := Lib.hid hm2
    clear hm2
    have f1 : (a.length : Int) + (b.length : Int) ≤ (s.length : Int) := by omega
    have f2 : (a.length : Int) ≤ (s.length : Int) := by omega
    have f3 : (0 : Int) ≤ (s.length : Int) - (b.length : Int) := by omega
    have f4 : (s.length : Int) - (b.length : Int) ≤ (s.length : Int) := by omega
    have f5 : ((s.length : Int) - (b.length : Int)).toNat = s.length - b.length := by omega
    cases hx : (s.take a.length == a) <;> cases hy : (s.drop (s.length - b.length) == b)
    all_goals
      rw [hx, hy] at HM2
      go_enter Try.func12, Try.ntmps12
      go_wp2_with (first
        | (go_at_call 32; refine (HAW.out _ HM.out).mono ?_; rintro e w' ⟨rfl, hb⟩; obtain ⟨g, rfl⟩ := to_grow hb; clear hb)
        | (go_at_call 40; (with_reducible refine (HQA.out _).mono ?_); rintro e w' ⟨rfl, hb⟩; obtain ⟨g1, rfl⟩ := to_grow hb; clear hb)
        | (go_at_call 40; (with_reducible refine (HQB.out _).mono ?_); rintro e w' ⟨rfl, hb⟩; obtain ⟨g2, rfl⟩ := to_grow hb; clear hb)
        | (go_at_call 35; (with_reducible refine (HM1.out _ (HM.out.below (by (repeat (first | with_reducible exact Below.refl _ _ | with_reducible assumption | with_reducible refine below_alloc ?_ _ | with_reducible refine below_grow ?_ _ | with_reducible refine below_drewN ?_ _ | with_reducible refine below_drew ?_ | with_reducible refine below_setCell ?_ (by first | (dsimp only; omega) | (simp; done) | (simp; omega)) _))))).mono ?_); rintro e w' ⟨rfl, hb⟩; obtain ⟨g3, rfl⟩ := to_grow hb; clear hb)
        | (go_at_call 35; (with_reducible refine (HM2.out _ (HM.out.below (by (repeat (first | with_reducible exact Below.refl _ _ | with_reducible assumption | with_reducible refine below_alloc ?_ _ | with_reducible refine below_grow ?_ _ | with_reducible refine below_drewN ?_ _ | with_reducible refine below_drew ?_ | with_reducible refine below_setCell ?_ (by first | (dsimp only; omega) | (simp; done) | (simp; omega)) _))))).mono ?_); rintro e w4 ⟨rfl, hb⟩; have HB4 := Lib.hid hb; clear hb))
      go_ret
      exact ⟨rfl, below_then (by (repeat (first | with_reducible exact Below.refl _ _ | with_reducible assumption | with_reducible refine below_alloc ?_ _ | with_reducible refine below_grow ?_ _ | with_reducible refine below_drewN ?_ _ | with_reducible refine below_drew ?_ | with_reducible refine below_setCell ?_ (by first | (dsimp only; omega) | (simp; done) | (simp; omega)) _))) HB4.out⟩
  · have hm2 := fun w hm => match_all (quote a ++ [42] ++ quote b) s w hm (by simp; omega) (by omega)
    rw [btwn_no hab] at hm2
    simp only [List.append_assoc, List.cons_append, List.nil_append] at hm2
    have HM2 := Lib.hid hm2
    clear hm2
    have f1 := no (show ¬ (a.length : Int) + (b.length : Int) ≤ (s.length : Int) by omega)
    clear hab
    go_enter Try.func12, Try.ntmps12
    go_wp2_with (first
      | (go_at_call 32; refine (HAW.out _ HM.out).mono ?_; rintro e w' ⟨rfl, hb⟩; obtain ⟨g, rfl⟩ := to_grow hb; clear hb)
      | (go_at_call 40; (with_reducible refine (HQA.out _).mono ?_); rintro e w' ⟨rfl, hb⟩; obtain ⟨g1, rfl⟩ := to_grow hb; clear hb)
      | (go_at_call 40; (with_reducible refine (HQB.out _).mono ?_); rintro e w' ⟨rfl, hb⟩; obtain ⟨g2, rfl⟩ := to_grow hb; clear hb)
      | (go_at_call 35; (with_reducible refine (HM1.out _ (HM.out.below (by (repeat (first | with_reducible exact Below.refl _ _ | with_reducible assumption | with_reducible refine below_alloc ?_ _ | with_reducible refine below_grow ?_ _ | with_reducible refine below_drewN ?_ _ | with_reducible refine below_drew ?_ | with_reducible refine below_setCell ?_ (by first | (dsimp only; omega) | (simp; done) | (simp; omega)) _))))).mono ?_); rintro e w' ⟨rfl, hb⟩; obtain ⟨g3, rfl⟩ := to_grow hb; clear hb)
      | (go_at_call 35; (with_reducible refine (HM2.out _ (HM.out.below (by (repeat (first | with_reducible exact Below.refl _ _ | with_reducible assumption | with_reducible refine below_alloc ?_ _ | with_reducible refine below_grow ?_ _ | with_reducible refine below_drewN ?_ _ | with_reducible refine below_drew ?_ | with_reducible refine below_setCell ?_ (by first | (dsimp only; omega) | (simp; done) | (simp; omega)) _))))).mono ?_); rintro e w4 ⟨rfl, hb⟩; have HB4 := Lib.hid hb; clear hb))
    go_ret
    exact ⟨rfl, below_then (by (repeat (first | with_reducible exact Below.refl _ _ | with_reducible assumption | with_reducible refine below_alloc ?_ _ | with_reducible refine below_grow ?_ _ | with_reducible refine below_drewN ?_ _ | with_reducible refine below_drew ?_ | with_reducible refine below_setCell ?_ (by first | (dsimp only; omega) | (simp; done) | (simp; omega)) _))) HB4.out⟩
end Go.Proofs.Yteojepadhonbiaa.patternBetween
