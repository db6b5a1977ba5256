/-
  The walk of the law SpecWrites: it returns true, whatever its arguments. Conditions: the library's variable MaxLen holds some number (arguments as the row reads them). (Printed by gen_spw.py.)
-/
import Derived.Test.YtadaeecokkokjaaGreatDoorWriteW
import Derived.Test.YtadaeecokkokjaaGreatDoorWriteR
import Derived.Test.YtadaeecokkokjaaGreatDoorSpecE
import Derived.Test.YtadaeecokkokjaaGreatDoorOpen
set_option linter.unusedSimpArgs false
set_option linter.unusedVariables false
namespace Go.Proofs.YtadaeecokkokjaaGreatDoor.specWrites
open Go.ChangeShapes Go.WideShapes Go.Deep Go.ChangeAt Go.RowKit Cls Md Mc Pa Li Pat Quo Spc
set_option linter.unusedSimpArgs false
set_option linter.unusedVariables false
set_option maxRecDepth 100000
set_option maxHeartbeats 4000000 in
theorem walk {H : Type} (enc : TypeId × Value → H) (w : World) (base : Nat) {v0 v1 : Value} {d0 d1 : DataW H} {p0 p1 : List MemPlace} (hm : MaxL w)
    (h0 : DataW.Trod enc Tryz.prog w 0 (fun _ => true) true 9 v0 d0 p0) (k0 : Value.okWide Tryz.prog w .any base 9 v0)
    (h1 : DataW.Trod enc Tryz.prog w 0 (fun _ => true) true 25 v1 d1 p1) (k1 : Value.okWide Tryz.prog w .any base 25 v1) :
    Calls Tryz.prog 3 #[v0, v1] w fun e w' => e = .returned (.bool true) ∧ Below w.heap.size w w' := by
  obtain ⟨s, rfl, hs⟩ := open_text h0 k0
  obtain ⟨va, vw, x, rfl, ha, hw, la, lw⟩ := open_spec h1 k1
  clear h0 k0 h1 k1
  have HAW := Lib.hid fun w => awake20_any w
  have HA := Lib.hid ha
  have HW := Lib.hid hw
  have HM := Lib.hid hm
  clear hm
  obtain ⟨Aa, ca, rfl, _⟩ := ha
  obtain ⟨Aw, cw, rfl, _⟩ := hw
  by_cases l1 : 100 < s.length
  · have n1 : (100 : Int) < (s.length : Int) := by omega
    clear l1
    go_enter Tryz.func3, Tryz.ntmps3
    go_wp2_with (go_at_call 5; refine (HAW.out _).mono ?_; rintro e w1 ⟨rfl, hb⟩; have HB1 := Lib.hid (below_then (below_alloc (Below.refl w.heap.size w) _) hb); have HBX1 := Lib.hid ((BoxN.new w [.slice Aa x.a.length ca, .slice Aw x.w.length cw, .string (B x.g), .string (B x.x), .string (B x.p), .string (B x.s)] 25).below hb); obtain ⟨⟨c10, c11, c12, c13, c14, c15⟩, -⟩ := box6 HBX1.out; haveI : Old w1 w.heap.size := ⟨HBX1.out.lt⟩; clear hb)
    go_ret
    exact ⟨rfl, HB1.out⟩
  have n1 : ¬ (100 : Int) < (s.length : Int) := by omega
  have HRM := Lib.hid fun w => rMay_any s w (by omega)
  have HL := Lib.hid fun W (hb : Below w.heap.size w W) => light_any (.slice Aa x.a.length ca) (.slice Aw x.w.length cw) x W (HA.out.below hb) (HW.out.below hb) la lw
  cases hl : lightB x with
  | false =>
    rw [hl] at HL
    clear hl
    go_enter Tryz.func3, Tryz.ntmps3
    go_wp2_with (first
      | (go_at_call 5; refine (HAW.out _).mono ?_; rintro e w1 ⟨rfl, hb⟩; have HB1 := Lib.hid (below_then (below_alloc (Below.refl w.heap.size w) _) hb); have HBX1 := Lib.hid ((BoxN.new w [.slice Aa x.a.length ca, .slice Aw x.w.length cw, .string (B x.g), .string (B x.x), .string (B x.p), .string (B x.s)] 25).below hb); obtain ⟨⟨c10, c11, c12, c13, c14, c15⟩, -⟩ := box6 HBX1.out; haveI : Old w1 w.heap.size := ⟨HBX1.out.lt⟩; clear hb)
      | (go_at_call 6; refine (HL.out _ HB1.out).mono ?_; rintro e w2 ⟨rfl, hb⟩; have HB2 := Lib.hid (below_then HB1.out hb); have HBX2 := Lib.hid (HBX1.out.below hb); obtain ⟨⟨c20, c21, c22, c23, c24, c25⟩, -⟩ := box6 HBX2.out; haveI : Old w2 w.heap.size := ⟨HBX2.out.lt⟩; clear hb))
    go_ret
    exact ⟨rfl, HB2.out⟩
  | true =>
  rw [hl] at HL
  have la2 : x.a.length ≤ 20 ∧ x.w.length ≤ 20 := by
    unfold lightB at hl
    simp only [Bool.and_eq_true, decide_eq_true_eq] at hl
    exact ⟨hl.1.1.1.1.1.1, hl.1.1.1.1.1.2⟩
  have HRG := Lib.hid fun W (hb : Below w.heap.size w W) => rGood_any (.slice Aa x.a.length ca) (.slice Aw x.w.length cw) x W (HA.out.below hb) (HW.out.below hb) (by omega) (by omega)
  cases hmy : spMay s with
  | false =>
    have hc : chk20 s x = 5 := by unfold chk20; rw [hmy]; rfl
    have HWB := Lib.hid fun W (hb : Below w.heap.size w W) => write_bad s (.slice Aa x.a.length ca) (.slice Aw x.w.length cw) x W (by omega) (HA.out.below hb) (HW.out.below hb) (by omega) (by omega) (by rw [hc]; decide)
    rw [hc] at HWB
    rw [hmy] at HRM
    clear hmy hc hl
    go_enter Tryz.func3, Tryz.ntmps3
    go_wp2_with (first
      | (go_at_call 5; refine (HAW.out _).mono ?_; rintro e w1 ⟨rfl, hb⟩; have HB1 := Lib.hid (below_then (below_alloc (Below.refl w.heap.size w) _) hb); have HBX1 := Lib.hid ((BoxN.new w [.slice Aa x.a.length ca, .slice Aw x.w.length cw, .string (B x.g), .string (B x.x), .string (B x.p), .string (B x.s)] 25).below hb); obtain ⟨⟨c10, c11, c12, c13, c14, c15⟩, -⟩ := box6 HBX1.out; haveI : Old w1 w.heap.size := ⟨HBX1.out.lt⟩; clear hb)
      | (go_at_call 6; refine (HL.out _ HB1.out).mono ?_; rintro e w2 ⟨rfl, hb⟩; have HB2 := Lib.hid (below_then HB1.out hb); have HBX2 := Lib.hid (HBX1.out.below hb); obtain ⟨⟨c20, c21, c22, c23, c24, c25⟩, -⟩ := box6 HBX2.out; haveI : Old w2 w.heap.size := ⟨HBX2.out.lt⟩; clear hb)
      | (go_at_call 7; refine (HWB.out _ HB2.out).mono ?_; rintro e w3 ⟨rfl, hb⟩; have HB3 := Lib.hid (below_then HB2.out hb); have HBX3 := Lib.hid (HBX2.out.below hb); obtain ⟨⟨c30, c31, c32, c33, c34, c35⟩, -⟩ := box6 HBX3.out; haveI : Old w3 w.heap.size := ⟨HBX3.out.lt⟩; clear hb)
      | (go_at_call 8; refine (HRM.out _).mono ?_; rintro e w4 ⟨rfl, rfl⟩))
    go_ret
    exact ⟨rfl, HB3.out⟩
  | true =>
  cases hgd : goodB x with
  | false =>
    have hc : chk20 s x = 4 := by unfold chk20; rw [hmy, hgd]; rfl
    have HWB := Lib.hid fun W (hb : Below w.heap.size w W) => write_bad s (.slice Aa x.a.length ca) (.slice Aw x.w.length cw) x W (by omega) (HA.out.below hb) (HW.out.below hb) (by omega) (by omega) (by rw [hc]; decide)
    rw [hc] at HWB
    rw [hmy] at HRM
    rw [hgd] at HRG
    clear hmy hgd hc hl
    go_enter Tryz.func3, Tryz.ntmps3
    go_wp2_with (first
      | (go_at_call 5; refine (HAW.out _).mono ?_; rintro e w1 ⟨rfl, hb⟩; have HB1 := Lib.hid (below_then (below_alloc (Below.refl w.heap.size w) _) hb); have HBX1 := Lib.hid ((BoxN.new w [.slice Aa x.a.length ca, .slice Aw x.w.length cw, .string (B x.g), .string (B x.x), .string (B x.p), .string (B x.s)] 25).below hb); obtain ⟨⟨c10, c11, c12, c13, c14, c15⟩, -⟩ := box6 HBX1.out; haveI : Old w1 w.heap.size := ⟨HBX1.out.lt⟩; clear hb)
      | (go_at_call 6; refine (HL.out _ HB1.out).mono ?_; rintro e w2 ⟨rfl, hb⟩; have HB2 := Lib.hid (below_then HB1.out hb); have HBX2 := Lib.hid (HBX1.out.below hb); obtain ⟨⟨c20, c21, c22, c23, c24, c25⟩, -⟩ := box6 HBX2.out; haveI : Old w2 w.heap.size := ⟨HBX2.out.lt⟩; clear hb)
      | (go_at_call 7; refine (HWB.out _ HB2.out).mono ?_; rintro e w3 ⟨rfl, hb⟩; have HB3 := Lib.hid (below_then HB2.out hb); have HBX3 := Lib.hid (HBX2.out.below hb); obtain ⟨⟨c30, c31, c32, c33, c34, c35⟩, -⟩ := box6 HBX3.out; haveI : Old w3 w.heap.size := ⟨HBX3.out.lt⟩; clear hb)
      | (go_at_call 8; refine (HRM.out _).mono ?_; rintro e w4 ⟨rfl, rfl⟩)
      | (go_at_call 9; refine (HRG.out _ HB3.out).mono ?_; rintro e w4 ⟨rfl, hb⟩; have HB4 := Lib.hid (below_then HB3.out hb); have HBX4 := Lib.hid (HBX3.out.below hb); obtain ⟨⟨c40, c41, c42, c43, c44, c45⟩, -⟩ := box6 HBX4.out; haveI : Old w4 w.heap.size := ⟨HBX4.out.lt⟩; clear hb))
    go_ret
    exact ⟨rfl, HB4.out⟩
  | true =>
    have hc : chk20 s x = 0 := by unfold chk20; rw [hmy, hgd]; rfl
    have hr : risesB 0 x.a = true := by
      unfold goodB at hgd
      simp only [Bool.and_eq_true] at hgd
      exact hgd.1.1.1
    have HWB := Lib.hid fun W (hb : Below w.heap.size w W) => write_ok s (.slice Aa x.a.length ca) (.slice Aw x.w.length cw) x W (by omega) (HA.out.below hb) (HW.out.below hb) hl (HM.out.below hb) hc
    have HWR := Lib.hid fun W (hb : Below w.heap.size w W) => refWrite_any s (.slice Aa x.a.length ca) (.slice Aw x.w.length cw) x W (by omega) (HA.out.below hb) (HW.out.below hb) hl hr
    rw [hmy] at HRM
    rw [hgd] at HRG
    clear hmy hgd hc hl hr
    generalize writeL s x = wl at *
    go_enter Tryz.func3, Tryz.ntmps3
    go_wp2_with (first
      | (go_at_call 5; refine (HAW.out _).mono ?_; rintro e w1 ⟨rfl, hb⟩; have HB1 := Lib.hid (below_then (below_alloc (Below.refl w.heap.size w) _) hb); have HBX1 := Lib.hid ((BoxN.new w [.slice Aa x.a.length ca, .slice Aw x.w.length cw, .string (B x.g), .string (B x.x), .string (B x.p), .string (B x.s)] 25).below hb); obtain ⟨⟨c10, c11, c12, c13, c14, c15⟩, -⟩ := box6 HBX1.out; haveI : Old w1 w.heap.size := ⟨HBX1.out.lt⟩; clear hb)
      | (go_at_call 6; refine (HL.out _ HB1.out).mono ?_; rintro e w2 ⟨rfl, hb⟩; have HB2 := Lib.hid (below_then HB1.out hb); have HBX2 := Lib.hid (HBX1.out.below hb); obtain ⟨⟨c20, c21, c22, c23, c24, c25⟩, -⟩ := box6 HBX2.out; haveI : Old w2 w.heap.size := ⟨HBX2.out.lt⟩; clear hb)
      | (go_at_call 7; refine (HWB.out _ HB2.out).mono ?_; rintro e w3 ⟨rfl, hb⟩; have HB3 := Lib.hid (below_then HB2.out hb); have HBX3 := Lib.hid (HBX2.out.below hb); obtain ⟨⟨c30, c31, c32, c33, c34, c35⟩, -⟩ := box6 HBX3.out; haveI : Old w3 w.heap.size := ⟨HBX3.out.lt⟩; clear hb)
      | (go_at_call 8; refine (HRM.out _).mono ?_; rintro e w9 ⟨rfl, rfl⟩)
      | (go_at_call 9; refine (HRG.out _ HB3.out).mono ?_; rintro e w4 ⟨rfl, hb⟩; have HB4 := Lib.hid (below_then HB3.out hb); have HBX4 := Lib.hid (HBX3.out.below hb); obtain ⟨⟨c40, c41, c42, c43, c44, c45⟩, -⟩ := box6 HBX4.out; haveI : Old w4 w.heap.size := ⟨HBX4.out.lt⟩; clear hb)
      | (go_at_call 10; refine (HWR.out _ HB4.out).mono ?_; rintro e w5 ⟨rfl, hb⟩; have HB5 := Lib.hid (below_then HB4.out hb); have HBX5 := Lib.hid (HBX4.out.below hb); obtain ⟨⟨c50, c51, c52, c53, c54, c55⟩, -⟩ := box6 HBX5.out; haveI : Old w5 w.heap.size := ⟨HBX5.out.lt⟩; clear hb))
    go_ret
    exact ⟨rfl, HB5.out⟩
end Go.Proofs.YtadaeecokkokjaaGreatDoor.specWrites
