/-
  The walk of the law SpecMay: it returns true, whatever its arguments. Conditions: none (arguments as the row reads them).
-/
import Derived.Test.YtljinmfkogmmlaaSpecOpen
namespace Go.Proofs.Ytljinmfkogmmlaa.specMay
open Go.ChangeShapes Go.WideShapes Go.Deep Go.ChangeAt Go.RowKit Mc Pa Spc
set_option linter.unusedSimpArgs false
set_option linter.unusedVariables false
set_option maxRecDepth 100000
set_option maxHeartbeats 2000000 in
theorem walk {H : Type} (enc : TypeId × Value → H) (w : World) (base : Nat) {v0 v1 : Value} {d0 d1 : DataW H} {p0 p1 : List MemPlace}
    (h0 : DataW.Trod enc Try.prog w 0 (fun _ => true) true 9 v0 d0 p0) (k0 : Value.okWide Try.prog w .any base 9 v0)
    (h1 : DataW.Trod enc Try.prog w 0 (fun _ => true) true 25 v1 d1 p1) (k1 : Value.okWide Try.prog w .any base 25 v1) :
    Calls Try.prog 3 #[v0, v1] w fun e w' => e = .returned (.bool true) ∧ Below w.heap.size w w' := by
  obtain ⟨s, rfl, hs⟩ := open_text h0 k0
  obtain ⟨va, vw, x, rfl, ha, hw, la, lw⟩ := open_spec h1 k1
  clear h0 k0 h1 k1
  have HAW := Lib.hid fun w => awake20_any w
  have HA := Lib.hid ha
  have HW := Lib.hid hw
  obtain ⟨Aa, ca, rfl, _⟩ := ha
  obtain ⟨Aw, cw, rfl, _⟩ := hw
  by_cases l1 : 100 < s.length
  · have n1 : (100 : Int) < (s.length : Int) := by omega
    clear l1
    go_enter Try.func3, Try.ntmps3
    go_wp2_with (go_at_call 4; refine (HAW.out _).mono ?_; rintro e w2 ⟨rfl, hb⟩; have HB := Lib.hid hb; clear hb)
    go_ret
    exact ⟨rfl, below_then (below_alloc (Below.refl _ _) _) HB.out⟩
  have n1 : ¬ (100 : Int) < (s.length : Int) := by omega
  have HMY := Lib.hid fun w => spMay_any s w (by omega)
  have HRM := Lib.hid fun w => rMay_any s w (by omega)
  have HL := Lib.hid fun W (hb : Below w.heap.size w W) => light_any (.slice Aa x.a.length ca) (.slice Aw x.w.length cw) x W (HA.out.below hb) (HW.out.below hb) la lw
  cases hl : lightB x with
  | false =>
    rw [hl] at HL
    clear hl
    go_enter Try.func3, Try.ntmps3
    go_wp2_with (first
      | (go_at_call 4; refine (HAW.out _).mono ?_; rintro e w2 ⟨rfl, hb⟩; have HB := Lib.hid (below_then (below_alloc (Below.refl w.heap.size w) _) hb); have HBX := Lib.hid ((BoxN.new w [.slice Aa x.a.length ca, .slice Aw x.w.length cw, .string (B x.g), .string (B x.x), .string (B x.p), .string (B x.s)] 25).below hb); obtain ⟨⟨c0, c1, c2, c3, c4, c5⟩, -⟩ := box6 HBX.out; haveI : Old w2 w.heap.size := ⟨HBX.out.lt⟩; clear hb)
      | (go_at_call 5; refine (HL.out _ HB.out).mono ?_; rintro e w3 ⟨rfl, hb⟩; have HB3 := Lib.hid (below_then HB.out hb); have HBX3 := Lib.hid (HBX.out.below hb); obtain ⟨⟨e0, e1, e2, e3, e4, e5⟩, -⟩ := box6 HBX3.out; haveI : Old w3 w.heap.size := ⟨HBX3.out.lt⟩; clear hb))
    go_ret
    exact ⟨rfl, HB3.out⟩
  | true =>
    rw [hl] at HL
    have la2 : x.a.length ≤ 20 ∧ x.w.length ≤ 20 := by
      unfold lightB at hl
      simp only [Bool.and_eq_true, decide_eq_true_eq] at hl
      exact ⟨hl.1.1.1.1.1.1, hl.1.1.1.1.1.2⟩
    have HG := Lib.hid fun W (hb : Below w.heap.size w W) => good_any (.slice Aa x.a.length ca) (.slice Aw x.w.length cw) x W (HA.out.below hb) (HW.out.below hb) (by omega) (by omega)
    have HRG := Lib.hid fun W (hb : Below w.heap.size w W) => rGood_any (.slice Aa x.a.length ca) (.slice Aw x.w.length cw) x W (HA.out.below hb) (HW.out.below hb) (by omega) (by omega)
    clear hl la2
    generalize goodB x = gb at *
    generalize spMay s = mb at *
    go_enter Try.func3, Try.ntmps3
    go_wp2_with (first
      | (go_at_call 4; refine (HAW.out _).mono ?_; rintro e w2 ⟨rfl, hb⟩; have HB := Lib.hid (below_then (below_alloc (Below.refl w.heap.size w) _) hb); have HBX := Lib.hid ((BoxN.new w [.slice Aa x.a.length ca, .slice Aw x.w.length cw, .string (B x.g), .string (B x.x), .string (B x.p), .string (B x.s)] 25).below hb); obtain ⟨⟨c0, c1, c2, c3, c4, c5⟩, -⟩ := box6 HBX.out; haveI : Old w2 w.heap.size := ⟨HBX.out.lt⟩; clear hb)
      | (go_at_call 5; refine (HL.out _ HB.out).mono ?_; rintro e w3 ⟨rfl, hb⟩; have HB3 := Lib.hid (below_then HB.out hb); have HBX3 := Lib.hid (HBX.out.below hb); obtain ⟨⟨e0, e1, e2, e3, e4, e5⟩, -⟩ := box6 HBX3.out; haveI : Old w3 w.heap.size := ⟨HBX3.out.lt⟩; clear hb))
    (refine wp_region_grow (by kernel_rfl) (by kernel_rfl) ?_; (repeat (go_big_quiet_step ((first | (go_at_call 6; exact grow_same (HMY.out _)) | (go_at_call 7; exact grow_same (HRM.out _)) | (go_at_call 8; exact grow_of (HG.out _ (below_then HB3.out (grow_below _ _)))) | (go_at_call 9; exact grow_of (HRG.out _ (below_then HB3.out (grow_below _ _)))))))); refine wpQuiet_nil ?_; intro _ hw'; obtain ⟨gq, hw''⟩ := hw'; subst hw'')
    go_wp2
    go_ret
    exact ⟨rfl, below_then HB3.out (grow_below _ _)⟩
end Go.Proofs.Ytljinmfkogmmlaa.specMay
