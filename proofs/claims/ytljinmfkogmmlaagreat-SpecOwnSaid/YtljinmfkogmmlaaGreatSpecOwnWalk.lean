/-
  The walk of the law SpecOwn: it returns true, whatever its arguments. Conditions: none (arguments as the row reads them).
-/
import Derived.Test.YtljinmfkogmmlaaGreatSpecOwnKit
namespace Go.Proofs.YtljinmfkogmmlaaGreat.specOwn
open Go.ChangeShapes Go.WideShapes Go.Deep Go.ChangeAt Go.RowKit Tab Mc Pa Spc Quo
set_option linter.unusedSimpArgs false
set_option linter.unusedVariables false
set_option maxRecDepth 100000
theorem early {H : Type} (enc : TypeId × Value → H) (w : World) (s : List UInt8) (va vw : Value) (x : Sp) (ha : Sl w numC 1 va x.a) (hw : Sl w strC 1 vw x.w) (la : x.a.length ≤ 9223372036854775807) (lw : x.w.length ≤ 9223372036854775807)
    (hno : 100 < s.length ∨ lightB x = false ∨ spMay s = false ∨ goodB x = false) : Calls Tryz.prog 4 #[.string (B s), spV va vw x] w fun e w' => e = .returned (.bool true) ∧ Below w.heap.size w w' := by
  have HAW := Lib.hid fun w => awake20_any w
  have HA := Lib.hid ha
  have HW := Lib.hid hw
  obtain ⟨Aa, ca, rfl, _⟩ := ha
  obtain ⟨Aw, cw, rfl, _⟩ := hw
  by_cases l1 : 100 < s.length
  · have n1 : (100 : Int) < (s.length : Int) := by omega
    clear l1 hno
    go_enter Tryz.func4, Tryz.ntmps4
    go_wp2_with (go_at_call 7; refine (HAW.out _).mono ?_; rintro e w2 ⟨rfl, hb⟩; have HB := Lib.hid hb; clear hb)
    go_ret
    exact ⟨rfl, below_then (below_alloc (Below.refl _ _) _) HB.out⟩
  have n1 : ¬ (100 : Int) < (s.length : Int) := by omega
  have HRM := Lib.hid fun w => rMay_any s w (by omega)
  have HL := Lib.hid fun W (hb : Below w.heap.size w W) => light_any (.slice Aa x.a.length ca) (.slice Aw x.w.length cw) x W (HA.out.below hb) (HW.out.below hb) la lw
  replace hno := hno.resolve_left l1
  clear l1
  cases hl : lightB x with
  | false =>
    rw [hl] at HL
    clear hl hno
    go_enter Tryz.func4, Tryz.ntmps4
    go_wp2_with (first
      | (go_at_call 7; refine (HAW.out _).mono ?_; rintro e w2 ⟨rfl, hb⟩; have HB := Lib.hid (below_then (below_alloc (Below.refl w.heap.size w) _) hb); have HBX := Lib.hid ((BoxN.new w [.slice Aa x.a.length ca, .slice Aw x.w.length cw, .string (B x.g), .string (B x.x), .string (B x.p), .string (B x.s)] 26).below hb); obtain ⟨⟨c0, c1, c2, c3, c4, c5⟩, -⟩ := box6 HBX.out; haveI : Old w2 w.heap.size := ⟨HBX.out.lt⟩; clear hb)
      | (go_at_call 11; refine (HL.out _ HB.out).mono ?_; rintro e w3 ⟨rfl, hb⟩; have HB3 := Lib.hid (below_then HB.out hb); have HBX3 := Lib.hid (HBX.out.below hb); obtain ⟨⟨e0, e1, e2, e3, e4, e5⟩, -⟩ := box6 HBX3.out; haveI : Old w3 w.heap.size := ⟨HBX3.out.lt⟩; clear hb))
    go_ret
    exact ⟨rfl, HB3.out⟩
  | true =>
    rw [hl] at HL hno
    have la2 : x.a.length ≤ 20 ∧ x.w.length ≤ 20 := by
      unfold lightB at hl
      simp only [Bool.and_eq_true, decide_eq_true_eq] at hl
      exact ⟨hl.1.1.1.1.1.1, hl.1.1.1.1.1.2⟩
    have HRG := Lib.hid fun W (hb : Below w.heap.size w W) => rGood_any (.slice Aa x.a.length ca) (.slice Aw x.w.length cw) x W (HA.out.below hb) (HW.out.below hb) (by omega) (by omega)
    replace hno := hno.resolve_left (by simp)
    clear hl la2
    cases hm : spMay s with
    | false =>
      rw [hm] at HRM
      clear hm hno
      go_enter Tryz.func4, Tryz.ntmps4
      go_wp2_with (first
        | (go_at_call 7; refine (HAW.out _).mono ?_; rintro e w2 ⟨rfl, hb⟩; have HB := Lib.hid (below_then (below_alloc (Below.refl w.heap.size w) _) hb); have HBX := Lib.hid ((BoxN.new w [.slice Aa x.a.length ca, .slice Aw x.w.length cw, .string (B x.g), .string (B x.x), .string (B x.p), .string (B x.s)] 26).below hb); obtain ⟨⟨c0, c1, c2, c3, c4, c5⟩, -⟩ := box6 HBX.out; haveI : Old w2 w.heap.size := ⟨HBX.out.lt⟩; clear hb)
        | (go_at_call 11; refine (HL.out _ HB.out).mono ?_; rintro e w3 ⟨rfl, hb⟩; have HB3 := Lib.hid (below_then HB.out hb); have HBX3 := Lib.hid (HBX.out.below hb); obtain ⟨⟨e0, e1, e2, e3, e4, e5⟩, -⟩ := box6 HBX3.out; haveI : Old w3 w.heap.size := ⟨HBX3.out.lt⟩; clear hb)
        | (go_at_call 12; refine (HRM.out _).mono ?_; rintro e w' ⟨rfl, rfl⟩))
      go_ret
      exact ⟨rfl, HB3.out⟩
    | true =>
      rw [hm] at HRM hno
      replace hno := hno.resolve_left (by simp)
      rw [hno] at HRG
      clear hm hno
      go_enter Tryz.func4, Tryz.ntmps4
      go_wp2_with (first
        | (go_at_call 7; refine (HAW.out _).mono ?_; rintro e w2 ⟨rfl, hb⟩; have HB := Lib.hid (below_then (below_alloc (Below.refl w.heap.size w) _) hb); have HBX := Lib.hid ((BoxN.new w [.slice Aa x.a.length ca, .slice Aw x.w.length cw, .string (B x.g), .string (B x.x), .string (B x.p), .string (B x.s)] 26).below hb); obtain ⟨⟨c0, c1, c2, c3, c4, c5⟩, -⟩ := box6 HBX.out; haveI : Old w2 w.heap.size := ⟨HBX.out.lt⟩; clear hb)
        | (go_at_call 11; refine (HL.out _ HB.out).mono ?_; rintro e w3 ⟨rfl, hb⟩; have HB3 := Lib.hid (below_then HB.out hb); have HBX3 := Lib.hid (HBX.out.below hb); obtain ⟨⟨e0, e1, e2, e3, e4, e5⟩, -⟩ := box6 HBX3.out; haveI : Old w3 w.heap.size := ⟨HBX3.out.lt⟩; clear hb)
        | (go_at_call 12; refine (HRM.out _).mono ?_; rintro e w' ⟨rfl, rfl⟩)
        | (go_at_call 13; refine (HRG.out _ HB3.out).mono ?_; rintro e w4 ⟨rfl, hb⟩; have HB4 := Lib.hid (below_then HB3.out hb); clear hb))
      go_ret
      exact ⟨rfl, HB4.out⟩
set_option maxHeartbeats 8000000 in
theorem main_ {H : Type} (enc : TypeId × Value → H) (w : World) (s : List UInt8) (va vw : Value) (x : Sp) (ha : Sl w numC 1 va x.a) (hw : Sl w strC 1 vw x.w) (hs : s.length ≤ 100) (hl : lightB x = true) (hm : spMay s = true) (hg : goodB x = true) : Calls Tryz.prog 4 #[.string (B s), spV va vw x] w fun e w' => e = .returned (.bool true) ∧ Below w.heap.size w w' := by
  obtain ⟨i0, hi0, hz00, hz01, hz02⟩ := info_parts info_num
  obtain ⟨i1, hi1, hz10, hz11, hz12⟩ := info_parts info_str
  have la2 : x.a.length ≤ 20 ∧ x.w.length ≤ 20 := by
    unfold lightB at hl
    simp only [Bool.and_eq_true, decide_eq_true_eq] at hl
    exact ⟨hl.1.1.1.1.1.1, hl.1.1.1.1.1.2⟩
  have HCK := Lib.hid (show chk20 s x = 0 by unfold chk20; rw [hm, hg]; rfl)
  have HAW := Lib.hid fun w => awake20_any w
  have HA := Lib.hid ha
  have HW := Lib.hid hw
  have HSA := Lib.hid (ha.src (fun x _ => rfl))
  have HSW := Lib.hid (hw.src (fun x _ => rfl))
  obtain ⟨Aa, ca, rfl, _⟩ := ha
  obtain ⟨Aw, cw, rfl, _⟩ := hw
  have n1 : ¬ (100 : Int) < (s.length : Int) := by omega
  have HRM := Lib.hid fun w => rMay_any s w (by omega)
  have HL := Lib.hid fun W (hb : Below w.heap.size w W) => light_any (.slice Aa x.a.length ca) (.slice Aw x.w.length cw) x W (HA.out.below hb) (HW.out.below hb) (by omega) (by omega)
  have HRG := Lib.hid fun W (hb : Below w.heap.size w W) => rGood_any (.slice Aa x.a.length ca) (.slice Aw x.w.length cw) x W (HA.out.below hb) (HW.out.below hb) (by omega) (by omega)
  rw [hl] at HL
  rw [hm] at HRM
  rw [hg] at HRG
  clear hl hm hg
  go_enter Tryz.func4, Tryz.ntmps4
  go_upto_region 5 with (first
    | (go_at_call 7; refine (HAW.out _).mono ?_; rintro e w2 ⟨rfl, hb⟩; have HB := Lib.hid (below_then (below_alloc (Below.refl w.heap.size w) _) hb); have HBX := Lib.hid ((BoxN.new w [.slice Aa x.a.length ca, .slice Aw x.w.length cw, .string (B x.g), .string (B x.x), .string (B x.p), .string (B x.s)] 26).below hb); obtain ⟨⟨c0, c1, c2, c3, c4, c5⟩, -⟩ := box6 HBX.out; haveI : Old w2 w.heap.size := ⟨HBX.out.lt⟩; clear hb)
    | (go_at_call 11; refine (HL.out _ HB.out).mono ?_; rintro e w3 ⟨rfl, hb⟩; have HB3 := Lib.hid (below_then HB.out hb); have HBX3 := Lib.hid (HBX.out.below hb); obtain ⟨⟨e0, e1, e2, e3, e4, e5⟩, -⟩ := box6 HBX3.out; haveI : Old w3 w.heap.size := ⟨HBX3.out.lt⟩; clear hb)
    | (go_at_call 12; refine (HRM.out _).mono ?_; rintro e w' ⟨rfl, rfl⟩)
    | (go_at_call 13; refine (HRG.out _ HB3.out).mono ?_; rintro e w4 ⟨rfl, hb⟩; have HB4 := Lib.hid (below_then HB3.out hb); have HBX4 := Lib.hid (HBX3.out.below hb); clear hb c0 c1 c2 c3 c4 c5 e0 e1 e2 e3 e4 e5))
  clear HL HRM HRG HAW HBX HBX3 HB HB3
  have HM := Lib.hid (Nat.lt_of_lt_of_le HBX4.out.lt (Nat.le_refl _))
  obtain ⟨M, hM⟩ : ∃ M, M = w4.heap.size := ⟨_, rfl⟩
  have HMW := Lib.hid (Nat.le_of_eq hM)
  rw [← hM] at HM
  clear hM
  go_cut [5] from 34 to 50 (fun s5 wx => ∃ (ob : Nat) (A3 : Option Addr) (c3 : Nat) (A7 : Option Addr) (c7 : Nat), s5 = .pointer (some ⟨ob, 0, none⟩) ∧ Hid (PreI w wx M ob x [.slice Aa x.a.length ca, .slice Aw x.w.length cw, .string (B x.g), .string (B x.x), .string (B x.p), .string (B x.s)] A3 c3 A7 c7))
  case first =>
    refine wp_region_keyed (fun W => W.cell? ⟨w.heap.size, 0, none⟩ = some (.slice Aa x.a.length ca) ∧ W.cell? ⟨w.heap.size, 1, none⟩ = some (.slice Aw x.w.length cw) ∧ W.cell? ⟨w.heap.size, 2, none⟩ = some (.string (B x.g)) ∧ W.cell? ⟨w.heap.size, 3, none⟩ = some (.string (B x.x)) ∧ W.cell? ⟨w.heap.size, 4, none⟩ = some (.string (B x.p)) ∧ W.cell? ⟨w.heap.size, 5, none⟩ = some (.string (B x.s))) [18] (by kernel_rfl) ?_
    have HX := Lib.hid (HBX4.out.below (below_drew (Below.refl _ _)))
    have HB := Lib.hid (below_drew HB4.out)
    have HZ := Lib.hid (Nat.le_trans HMW.out (below_drew (Below.refl w4.heap.size w4)).size)
    have HRA : Hid True := Lib.hid trivial
    have HRW : Hid True := Lib.hid trivial
    have HN : Hid True := Lib.hid trivial
    generalize World.drew _ = D at *
    refine wpAnyK_take2 (i := 1) (some 35) (v := ?v1_1z26) rfl rfl (by kernel_rfl) (by kernel_rfl) (by kernel_rfl) (by kernel_rfl) (fun _ _ _ h => h) (Or.inl ⟨by rfl, ?y1_1z26⟩) (fun _ => (box6 HX.out).1) ?r1_1z26
    case y1_1z26 =>
      intro w hSw
      go_simp
      try with_reducible rfl
    try simp only [Act.put, List.setIfInBounds_toArray, List.set_cons_zero, List.set_cons_succ]
    refine wpAnyK_load2 (i := 2) [3, 7, 16, 18] (some 36) (v := ?v2_2z26) rfl rfl (by kernel_rfl) (by kernel_rfl) (by kernel_rfl) (by kernel_rfl) (by kernel_rfl) (fun _ _ _ h => h) (Or.inl ⟨by rfl, ?y2_2z26⟩) (fun _ => (box6 HX.out).1) ?r2_2z26
    case y2_2z26 =>
      intro w hSw
      (try dsimp only at hSw)
      go_split_ands
      go_simp
      try with_reducible rfl
    try simp only [Act.put, List.setIfInBounds_toArray, List.set_cons_zero, List.set_cons_succ]
    refine wpAnyK_take2 (i := 5) (some 39) (v := ?v5_3z26) rfl rfl (by kernel_rfl) (by kernel_rfl) (by kernel_rfl) (by kernel_rfl) (fun _ _ _ h => h) (Or.inl ⟨by rfl, ?y5_3z26⟩) (fun _ => (box6 HX.out).1) ?r5_3z26
    case y5_3z26 =>
      intro w hSw
      go_simp
      try with_reducible rfl
    try simp only [Act.put, List.setIfInBounds_toArray, List.set_cons_zero, List.set_cons_succ]
    refine wpAnyK_load2 (i := 6) [7, 16, 18] (some 40) (v := ?v6_4z26) rfl rfl (by kernel_rfl) (by kernel_rfl) (by kernel_rfl) (by kernel_rfl) (by kernel_rfl) (fun _ _ _ h => h) (Or.inl ⟨by rfl, ?y6_4z26⟩) (fun _ => (box6 HX.out).1) ?r6_4z26
    case y6_4z26 =>
      intro w hSw
      (try dsimp only at hSw)
      go_split_ands
      go_simp
      try with_reducible rfl
    try simp only [Act.put, List.setIfInBounds_toArray, List.set_cons_zero, List.set_cons_succ]
    refine wpAnyK_take2 (i := 8) (some 42) (v := ?v8_5z26) rfl rfl (by kernel_rfl) (by kernel_rfl) (by kernel_rfl) (by kernel_rfl) (fun _ _ _ h => h) (Or.inl ⟨by rfl, ?y8_5z26⟩) (fun _ => (box6 HX.out).1) ?r8_5z26
    case y8_5z26 =>
      intro w hSw
      go_simp
      try with_reducible rfl
    try simp only [Act.put, List.setIfInBounds_toArray, List.set_cons_zero, List.set_cons_succ]
    refine wpAnyK_load2 (i := 9) [16, 18] (some 43) (v := ?v9_6z26) rfl rfl (by kernel_rfl) (by kernel_rfl) (by kernel_rfl) (by kernel_rfl) (by kernel_rfl) (fun _ _ _ h => h) (Or.inl ⟨by rfl, ?y9_6z26⟩) (fun _ => (box6 HX.out).1) ?r9_6z26
    case y9_6z26 =>
      intro w hSw
      (try dsimp only at hSw)
      go_split_ands
      go_simp
      try with_reducible rfl
    try simp only [Act.put, List.setIfInBounds_toArray, List.set_cons_zero, List.set_cons_succ]
    refine wpAnyK_take2 (i := 10) (some 44) (v := ?v10_7z26) rfl rfl (by kernel_rfl) (by kernel_rfl) (by kernel_rfl) (by kernel_rfl) (fun _ _ _ h => h) (Or.inl ⟨by rfl, ?y10_7z26⟩) (fun _ => (box6 HX.out).1) ?r10_7z26
    case y10_7z26 =>
      intro w hSw
      go_simp
      try with_reducible rfl
    try simp only [Act.put, List.setIfInBounds_toArray, List.set_cons_zero, List.set_cons_succ]
    refine wpAnyK_load2 (i := 11) [16, 18] (some 45) (v := ?v11_8z26) rfl rfl (by kernel_rfl) (by kernel_rfl) (by kernel_rfl) (by kernel_rfl) (by kernel_rfl) (fun _ _ _ h => h) (Or.inl ⟨by rfl, ?y11_8z26⟩) (fun _ => (box6 HX.out).1) ?r11_8z26
    case y11_8z26 =>
      intro w hSw
      (try dsimp only at hSw)
      go_split_ands
      go_simp
      try with_reducible rfl
    try simp only [Act.put, List.setIfInBounds_toArray, List.set_cons_zero, List.set_cons_succ]
    refine wpAnyK_take2 (i := 12) (some 46) (v := ?v12_9z26) rfl rfl (by kernel_rfl) (by kernel_rfl) (by kernel_rfl) (by kernel_rfl) (fun _ _ _ h => h) (Or.inl ⟨by rfl, ?y12_9z26⟩) (fun _ => (box6 HX.out).1) ?r12_9z26
    case y12_9z26 =>
      intro w hSw
      go_simp
      try with_reducible rfl
    try simp only [Act.put, List.setIfInBounds_toArray, List.set_cons_zero, List.set_cons_succ]
    refine wpAnyK_load2 (i := 13) [16, 18] (some 47) (v := ?v13_10z26) rfl rfl (by kernel_rfl) (by kernel_rfl) (by kernel_rfl) (by kernel_rfl) (by kernel_rfl) (fun _ _ _ h => h) (Or.inl ⟨by rfl, ?y13_10z26⟩) (fun _ => (box6 HX.out).1) ?r13_10z26
    case y13_10z26 =>
      intro w hSw
      (try dsimp only at hSw)
      go_split_ands
      go_simp
      try with_reducible rfl
    try simp only [Act.put, List.setIfInBounds_toArray, List.set_cons_zero, List.set_cons_succ]
    refine wpAnyK_take2 (i := 14) (some 48) (v := ?v14_11z26) rfl rfl (by kernel_rfl) (by kernel_rfl) (by kernel_rfl) (by kernel_rfl) (fun _ _ _ h => h) (Or.inl ⟨by rfl, ?y14_11z26⟩) (fun _ => (box6 HX.out).1) ?r14_11z26
    case y14_11z26 =>
      intro w hSw
      go_simp
      try with_reducible rfl
    try simp only [Act.put, List.setIfInBounds_toArray, List.set_cons_zero, List.set_cons_succ]
    refine wpAnyK_load2 (i := 15) [16, 18] (some 49) (v := ?v15_12z26) rfl rfl (by kernel_rfl) (by kernel_rfl) (by kernel_rfl) (by kernel_rfl) (by kernel_rfl) (fun _ _ _ h => h) (Or.inl ⟨by rfl, ?y15_12z26⟩) (fun _ => (box6 HX.out).1) ?r15_12z26
    case y15_12z26 =>
      intro w hSw
      (try dsimp only at hSw)
      go_split_ands
      go_simp
      try with_reducible rfl
    try simp only [Act.put, List.setIfInBounds_toArray, List.set_cons_zero, List.set_cons_succ]
    refine wpAnyK_ready (rs := [0, 4, 17]) (by kernel_rfl) (by simp) ?_
    refine AllReadyK.cons (i := 0) rfl (fun K hK => ?_) ?_
    · go_simp
      have hal := below_alloc (Below.refl D.heap.size D) (.cells #[] 3)
      have hnew : Rw (D.alloc (.cells #[] 3)) M 3 (.slice (some ⟨D.heap.size, 0, none⟩) 0 0) 0 [] := ⟨Own.none_ _ _ _ _ _ (by simp), fun k e => (by cases e; exact tyOf_alloc D #[] _), fun k e => (by cases e; exact HZ.out)⟩
      have HX := Lib.hid (HX.out.below hal)
      have HB := Lib.hid (below_then HB.out hal)
      have HZ := Lib.hid (Nat.le_trans HZ.out hal.size)
      first | (have HQ : True := HRW.out; clear HQ) | have HRW := Lib.hid (HRW.out.below hal)
      first | (have HQ : True := HN.out; clear HQ) | have HN := Lib.hid (HN.out.below hal)
      have HRA := Lib.hid hnew
      clear hal hnew
      generalize D.heap.size = n0 at *
      generalize D.alloc (.cells #[] 3) = D at *
      refine hK.out _ _ (fun _ => (box6 HX.out).1) ?_
      clear hK K
      try simp only [Act.put, List.setIfInBounds_toArray, List.set_cons_zero, List.set_cons_succ]
      refine wpAnyK_ready (rs := [3, 4, 17]) (by kernel_rfl) (by simp) ?_
      refine AllReadyK.cons (i := 3) rfl (fun K hK => ?_) ?_
      · have hzz := HZ.out
        (refine step_append_src _ rfl (.tmp 34) (.tmp 36) _ rfl M 3 i0 _ 1 8 Tryz.underlying23 hi0 hz00 hz01 hz02 rfl (by decide) _ 0 [] rfl HRA.out.o _ x.a.length (x.a.flatMap numC) rfl (by rw [num_flat, Nat.mul_one]) (HSA.out.below HB.out) num_one (by unfold maxLen; omega) (by omega) (by first | (simp; done) | omega | (simp; omega)) ?_; intro v3 w3 hown3 hg3 hat3 hty3; have HTY3 := Lib.hid hty3; clear hty3)
        have hgx : Keeps (fun k => (Value.slice (some ⟨n0, 0, none⟩) 0 0).ownBlock = some k ∧ M ≤ k) D w3 := hg3
        have hax : v3.ownBlock = (Value.slice (some ⟨n0, 0, none⟩) 0 0).ownBlock ∨ ∀ k, v3.ownBlock = some k → D.heap.size ≤ k := hat3
        have hra := HRA.out.app HZ.out hown3 hgx hax HTY3.out
        rw [Nat.zero_add, List.nil_append] at hra
        have HX := Lib.hid (HX.out.keeps hgx (fun f => by have := f.2; have := HM.out; omega))
        have HB := Lib.hid (below_keeps HB.out hgx (fun k f => by have := f.2; have := HM.out; omega))
        have HZ := Lib.hid (Nat.le_trans HZ.out hgx.size)
        first | (have HQ : True := HRW.out; clear HQ) | have HRW := Lib.hid (HRW.out.keeps hgx (HRA.out.apart (e2 := 9) (by decide)))
        first | (have HQ : True := HN.out; clear HQ) | have HN := Lib.hid (HN.out.keeps hgx (HRA.out.apart (e2 := 26) (by decide)))
        obtain ⟨A3, c3, rfl, -⟩ := hra.o.form0
        have HRA := Lib.hid hra
        clear hra hown3 hg3 hat3 HTY3 hzz hgx hax
        obtain ⟨D, rfl⟩ : ∃ D, D = w3 := ⟨_, rfl⟩
        refine hK.out _ _ (fun _ => (box6 HX.out).1) ?_
        clear hK K
        try simp only [Act.put, List.setIfInBounds_toArray, List.set_cons_zero, List.set_cons_succ]
        refine wpAnyK_ready (rs := [4, 17]) (by kernel_rfl) (by simp) ?_
        refine AllReadyK.cons (i := 4) rfl (fun K hK => ?_) ?_
        · go_simp
          have hal := below_alloc (Below.refl D.heap.size D) (.cells #[] 9)
          have hnew : Rw (D.alloc (.cells #[] 9)) M 9 (.slice (some ⟨D.heap.size, 0, none⟩) 0 0) 0 [] := ⟨Own.none_ _ _ _ _ _ (by simp), fun k e => (by cases e; exact tyOf_alloc D #[] _), fun k e => (by cases e; exact HZ.out)⟩
          have HX := Lib.hid (HX.out.below hal)
          have HB := Lib.hid (below_then HB.out hal)
          have HZ := Lib.hid (Nat.le_trans HZ.out hal.size)
          first | (have HQ : True := HRA.out; clear HQ) | have HRA := Lib.hid (HRA.out.below hal)
          first | (have HQ : True := HN.out; clear HQ) | have HN := Lib.hid (HN.out.below hal)
          have HRW := Lib.hid hnew
          clear hal hnew
          generalize D.heap.size = n4 at *
          generalize D.alloc (.cells #[] 9) = D at *
          refine hK.out _ _ (fun _ => (box6 HX.out).1) ?_
          clear hK K
          try simp only [Act.put, List.setIfInBounds_toArray, List.set_cons_zero, List.set_cons_succ]
          refine wpAnyK_ready (rs := [7, 17]) (by kernel_rfl) (by simp) ?_
          refine AllReadyK.cons (i := 7) rfl (fun K hK => ?_) ?_
          · have hzz := HZ.out
            (refine step_append_src _ rfl (.tmp 38) (.tmp 40) _ rfl M 9 i1 _ 1 16 Tryz.underlying24 hi1 hz10 hz11 hz12 rfl (by decide) _ 0 [] rfl HRW.out.o _ x.w.length (x.w.flatMap strC) rfl (by rw [strC_flat, Nat.mul_one]) (HSW.out.below HB.out) strC_one (by unfold maxLen; omega) (by omega) (by first | (simp; done) | omega | (simp; omega)) ?_; intro v7 w7 hown7 hg7 hat7 hty7; have HTY7 := Lib.hid hty7; clear hty7)
            have hgx : Keeps (fun k => (Value.slice (some ⟨n4, 0, none⟩) 0 0).ownBlock = some k ∧ M ≤ k) D w7 := hg7
            have hax : v7.ownBlock = (Value.slice (some ⟨n4, 0, none⟩) 0 0).ownBlock ∨ ∀ k, v7.ownBlock = some k → D.heap.size ≤ k := hat7
            have hra := HRW.out.app HZ.out hown7 hgx hax HTY7.out
            rw [Nat.zero_add, List.nil_append] at hra
            have HX := Lib.hid (HX.out.keeps hgx (fun f => by have := f.2; have := HM.out; omega))
            have HB := Lib.hid (below_keeps HB.out hgx (fun k f => by have := f.2; have := HM.out; omega))
            have HZ := Lib.hid (Nat.le_trans HZ.out hgx.size)
            first | (have HQ : True := HRA.out; clear HQ) | have HRA := Lib.hid (HRA.out.keeps hgx (HRW.out.apart (e2 := 3) (by decide)))
            first | (have HQ : True := HN.out; clear HQ) | have HN := Lib.hid (HN.out.keeps hgx (HRW.out.apart (e2 := 26) (by decide)))
            obtain ⟨A7, c7, rfl, -⟩ := hra.o.form0
            have HRW := Lib.hid hra
            clear hra hown7 hg7 hat7 HTY7 hzz hgx hax
            obtain ⟨D, rfl⟩ : ∃ D, D = w7 := ⟨_, rfl⟩
            refine hK.out _ _ (fun _ => (box6 HX.out).1) ?_
            clear hK K
            try simp only [Act.put, List.setIfInBounds_toArray, List.set_cons_zero, List.set_cons_succ]
            refine wpAnyK_take2 (i := 16) (some 50) (v := ?v16_13z26) rfl rfl (by kernel_rfl) (by kernel_rfl) (by kernel_rfl) (by kernel_rfl) (fun _ _ _ h => h) (Or.inl ⟨by rfl, ?y16_13z26⟩) (fun _ => (box6 HX.out).1) ?r16_13z26
            case y16_13z26 =>
              intro w hSw
              go_simp
              try with_reducible rfl
            try simp only [Act.put, List.setIfInBounds_toArray, List.set_cons_zero, List.set_cons_succ]
            refine wpAnyK_ready (rs := [17]) (by kernel_rfl) (by simp) ?_
            refine AllReadyK.cons (i := 17) rfl (fun K hK => ?_) ?_
            · go_simp
              have hal := below_alloc (Below.refl D.heap.size D) (.cells #[.slice none 0 0, .slice none 0 0, .string (B []), .string (B []), .string (B []), .string (B [])] 26)
              have hnew := BoxT.new D M [.slice none 0 0, .slice none 0 0, .string (B []), .string (B []), .string (B []), .string (B [])] 26 HZ.out
              have HX := Lib.hid (HX.out.below hal)
              have HB := Lib.hid (below_then HB.out hal)
              have HZ := Lib.hid (Nat.le_trans HZ.out hal.size)
              first | (have HQ : True := HRA.out; clear HQ) | have HRA := Lib.hid (HRA.out.below hal)
              first | (have HQ : True := HRW.out; clear HQ) | have HRW := Lib.hid (HRW.out.below hal)
              have HN := Lib.hid hnew
              clear hal hnew
              generalize D.heap.size = nb at *
              generalize D.alloc (.cells #[.slice none 0 0, .slice none 0 0, .string (B []), .string (B []), .string (B []), .string (B [])] 26) = D at *
              refine hK.out _ _ (fun _ => (box6 HX.out).1) ?_
              clear hK K
              try simp only [Act.put, List.setIfInBounds_toArray, List.set_cons_zero, List.set_cons_succ]
              refine wpAnyK_ready (rs := [18]) (by kernel_rfl) (by simp) ?_
              refine AllReadyK.cons (i := 18) rfl (fun K hK => ?_) ?_
              · obtain ⟨⟨k0, k1, k2, k3, k4, k5⟩, f0, f1, f2, f3, f4, f5⟩ := box6 HN.out.bx
                haveI : Old D nb := ⟨HN.out.bx.lt⟩
                go_simp
                obtain ⟨hbx, hk⟩ := HN.out.fill (.slice A3 x.a.length c3) (.slice A7 x.w.length c7) (.string (B x.g)) (.string (B x.x)) (.string (B x.p)) (.string (B x.s))
                have HX := Lib.hid (HX.out.keeps hk (fun f => by have := HN.out.ge; have := HM.out; omega))
                have HB := Lib.hid (below_keeps HB.out hk (fun k f => by have := HN.out.ge; have := HM.out; omega))
                have HZ := Lib.hid (Nat.le_trans HZ.out hk.size)
                have HRA := Lib.hid (HRA.out.keeps hk (HN.out.apart (e := 3) (by decide)))
                have HRW := Lib.hid (HRW.out.keeps hk (HN.out.apart (e := 9) (by decide)))
                have HN := Lib.hid hbx
                clear hbx hk k0 k1 k2 k3 k4 k5 f0 f1 f2 f3 f4 f5
                generalize World.setCell (World.setCell (World.setCell (World.setCell (World.setCell (World.setCell D _ _) _ _) _ _) _ _) _ _) _ _ = D at *
                refine hK.out _ _ (fun h => Bool.noConfusion ((show unl _ _ = false by kernel_rfl).symm.trans h)) ?_
                clear hK K
                try simp only [Act.put, List.setIfInBounds_toArray, List.set_cons_zero, List.set_cons_succ]
                refine wpAnyK_done (by kernel_rfl) ?_ _
                go_wp2_with fail
                go_meet
                exact ⟨nb, A3, c3, A7, c7, rfl, ⟨HX.out, HB.out, HM.out, HZ.out, HRA.out, HRW.out, HN.out⟩⟩
              exact AllReadyK.nil
            exact AllReadyK.nil
          refine AllReadyK.cons (i := 17) rfl (fun K hK => ?_) ?_
          · go_simp
            have hal := below_alloc (Below.refl D.heap.size D) (.cells #[.slice none 0 0, .slice none 0 0, .string (B []), .string (B []), .string (B []), .string (B [])] 26)
            have hnew := BoxT.new D M [.slice none 0 0, .slice none 0 0, .string (B []), .string (B []), .string (B []), .string (B [])] 26 HZ.out
            have HX := Lib.hid (HX.out.below hal)
            have HB := Lib.hid (below_then HB.out hal)
            have HZ := Lib.hid (Nat.le_trans HZ.out hal.size)
            first | (have HQ : True := HRA.out; clear HQ) | have HRA := Lib.hid (HRA.out.below hal)
            first | (have HQ : True := HRW.out; clear HQ) | have HRW := Lib.hid (HRW.out.below hal)
            have HN := Lib.hid hnew
            clear hal hnew
            generalize D.heap.size = nb at *
            generalize D.alloc (.cells #[.slice none 0 0, .slice none 0 0, .string (B []), .string (B []), .string (B []), .string (B [])] 26) = D at *
            refine hK.out _ _ (fun _ => (box6 HX.out).1) ?_
            clear hK K
            try simp only [Act.put, List.setIfInBounds_toArray, List.set_cons_zero, List.set_cons_succ]
            refine wpAnyK_ready (rs := [7]) (by kernel_rfl) (by simp) ?_
            refine AllReadyK.cons (i := 7) rfl (fun K hK => ?_) ?_
            · have hzz := HZ.out
              (refine step_append_src _ rfl (.tmp 38) (.tmp 40) _ rfl M 9 i1 _ 1 16 Tryz.underlying24 hi1 hz10 hz11 hz12 rfl (by decide) _ 0 [] rfl HRW.out.o _ x.w.length (x.w.flatMap strC) rfl (by rw [strC_flat, Nat.mul_one]) (HSW.out.below HB.out) strC_one (by unfold maxLen; omega) (by omega) (by first | (simp; done) | omega | (simp; omega)) ?_; intro v7 w7 hown7 hg7 hat7 hty7; have HTY7 := Lib.hid hty7; clear hty7)
              have hgx : Keeps (fun k => (Value.slice (some ⟨n4, 0, none⟩) 0 0).ownBlock = some k ∧ M ≤ k) D w7 := hg7
              have hax : v7.ownBlock = (Value.slice (some ⟨n4, 0, none⟩) 0 0).ownBlock ∨ ∀ k, v7.ownBlock = some k → D.heap.size ≤ k := hat7
              have hra := HRW.out.app HZ.out hown7 hgx hax HTY7.out
              rw [Nat.zero_add, List.nil_append] at hra
              have HX := Lib.hid (HX.out.keeps hgx (fun f => by have := f.2; have := HM.out; omega))
              have HB := Lib.hid (below_keeps HB.out hgx (fun k f => by have := f.2; have := HM.out; omega))
              have HZ := Lib.hid (Nat.le_trans HZ.out hgx.size)
              first | (have HQ : True := HRA.out; clear HQ) | have HRA := Lib.hid (HRA.out.keeps hgx (HRW.out.apart (e2 := 3) (by decide)))
              first | (have HQ : True := HN.out; clear HQ) | have HN := Lib.hid (HN.out.keeps hgx (HRW.out.apart (e2 := 26) (by decide)))
              obtain ⟨A7, c7, rfl, -⟩ := hra.o.form0
              have HRW := Lib.hid hra
              clear hra hown7 hg7 hat7 HTY7 hzz hgx hax
              obtain ⟨D, rfl⟩ : ∃ D, D = w7 := ⟨_, rfl⟩
              refine hK.out _ _ (fun _ => (box6 HX.out).1) ?_
              clear hK K
              try simp only [Act.put, List.setIfInBounds_toArray, List.set_cons_zero, List.set_cons_succ]
              refine wpAnyK_take2 (i := 16) (some 50) (v := ?v16_14z26) rfl rfl (by kernel_rfl) (by kernel_rfl) (by kernel_rfl) (by kernel_rfl) (fun _ _ _ h => h) (Or.inl ⟨by rfl, ?y16_14z26⟩) (fun _ => (box6 HX.out).1) ?r16_14z26
              case y16_14z26 =>
                intro w hSw
                go_simp
                try with_reducible rfl
              try simp only [Act.put, List.setIfInBounds_toArray, List.set_cons_zero, List.set_cons_succ]
              refine wpAnyK_ready (rs := [18]) (by kernel_rfl) (by simp) ?_
              refine AllReadyK.cons (i := 18) rfl (fun K hK => ?_) ?_
              · obtain ⟨⟨k0, k1, k2, k3, k4, k5⟩, f0, f1, f2, f3, f4, f5⟩ := box6 HN.out.bx
                haveI : Old D nb := ⟨HN.out.bx.lt⟩
                go_simp
                obtain ⟨hbx, hk⟩ := HN.out.fill (.slice A3 x.a.length c3) (.slice A7 x.w.length c7) (.string (B x.g)) (.string (B x.x)) (.string (B x.p)) (.string (B x.s))
                have HX := Lib.hid (HX.out.keeps hk (fun f => by have := HN.out.ge; have := HM.out; omega))
                have HB := Lib.hid (below_keeps HB.out hk (fun k f => by have := HN.out.ge; have := HM.out; omega))
                have HZ := Lib.hid (Nat.le_trans HZ.out hk.size)
                have HRA := Lib.hid (HRA.out.keeps hk (HN.out.apart (e := 3) (by decide)))
                have HRW := Lib.hid (HRW.out.keeps hk (HN.out.apart (e := 9) (by decide)))
                have HN := Lib.hid hbx
                clear hbx hk k0 k1 k2 k3 k4 k5 f0 f1 f2 f3 f4 f5
                generalize World.setCell (World.setCell (World.setCell (World.setCell (World.setCell (World.setCell D _ _) _ _) _ _) _ _) _ _) _ _ = D at *
                refine hK.out _ _ (fun h => Bool.noConfusion ((show unl _ _ = false by kernel_rfl).symm.trans h)) ?_
                clear hK K
                try simp only [Act.put, List.setIfInBounds_toArray, List.set_cons_zero, List.set_cons_succ]
                refine wpAnyK_done (by kernel_rfl) ?_ _
                go_wp2_with fail
                go_meet
                exact ⟨nb, A3, c3, A7, c7, rfl, ⟨HX.out, HB.out, HM.out, HZ.out, HRA.out, HRW.out, HN.out⟩⟩
              exact AllReadyK.nil
            exact AllReadyK.nil
          exact AllReadyK.nil
        refine AllReadyK.cons (i := 17) rfl (fun K hK => ?_) ?_
        · go_simp
          have hal := below_alloc (Below.refl D.heap.size D) (.cells #[.slice none 0 0, .slice none 0 0, .string (B []), .string (B []), .string (B []), .string (B [])] 26)
          have hnew := BoxT.new D M [.slice none 0 0, .slice none 0 0, .string (B []), .string (B []), .string (B []), .string (B [])] 26 HZ.out
          have HX := Lib.hid (HX.out.below hal)
          have HB := Lib.hid (below_then HB.out hal)
          have HZ := Lib.hid (Nat.le_trans HZ.out hal.size)
          first | (have HQ : True := HRA.out; clear HQ) | have HRA := Lib.hid (HRA.out.below hal)
          first | (have HQ : True := HRW.out; clear HQ) | have HRW := Lib.hid (HRW.out.below hal)
          have HN := Lib.hid hnew
          clear hal hnew
          generalize D.heap.size = nb at *
          generalize D.alloc (.cells #[.slice none 0 0, .slice none 0 0, .string (B []), .string (B []), .string (B []), .string (B [])] 26) = D at *
          refine hK.out _ _ (fun _ => (box6 HX.out).1) ?_
          clear hK K
          try simp only [Act.put, List.setIfInBounds_toArray, List.set_cons_zero, List.set_cons_succ]
          refine wpAnyK_ready (rs := [4]) (by kernel_rfl) (by simp) ?_
          refine AllReadyK.cons (i := 4) rfl (fun K hK => ?_) ?_
          · go_simp
            have hal := below_alloc (Below.refl D.heap.size D) (.cells #[] 9)
            have hnew : Rw (D.alloc (.cells #[] 9)) M 9 (.slice (some ⟨D.heap.size, 0, none⟩) 0 0) 0 [] := ⟨Own.none_ _ _ _ _ _ (by simp), fun k e => (by cases e; exact tyOf_alloc D #[] _), fun k e => (by cases e; exact HZ.out)⟩
            have HX := Lib.hid (HX.out.below hal)
            have HB := Lib.hid (below_then HB.out hal)
            have HZ := Lib.hid (Nat.le_trans HZ.out hal.size)
            first | (have HQ : True := HRA.out; clear HQ) | have HRA := Lib.hid (HRA.out.below hal)
            first | (have HQ : True := HN.out; clear HQ) | have HN := Lib.hid (HN.out.below hal)
            have HRW := Lib.hid hnew
            clear hal hnew
            generalize D.heap.size = n4 at *
            generalize D.alloc (.cells #[] 9) = D at *
            refine hK.out _ _ (fun _ => (box6 HX.out).1) ?_
            clear hK K
            try simp only [Act.put, List.setIfInBounds_toArray, List.set_cons_zero, List.set_cons_succ]
            refine wpAnyK_ready (rs := [7]) (by kernel_rfl) (by simp) ?_
            refine AllReadyK.cons (i := 7) rfl (fun K hK => ?_) ?_
            · have hzz := HZ.out
              (refine step_append_src _ rfl (.tmp 38) (.tmp 40) _ rfl M 9 i1 _ 1 16 Tryz.underlying24 hi1 hz10 hz11 hz12 rfl (by decide) _ 0 [] rfl HRW.out.o _ x.w.length (x.w.flatMap strC) rfl (by rw [strC_flat, Nat.mul_one]) (HSW.out.below HB.out) strC_one (by unfold maxLen; omega) (by omega) (by first | (simp; done) | omega | (simp; omega)) ?_; intro v7 w7 hown7 hg7 hat7 hty7; have HTY7 := Lib.hid hty7; clear hty7)
              have hgx : Keeps (fun k => (Value.slice (some ⟨n4, 0, none⟩) 0 0).ownBlock = some k ∧ M ≤ k) D w7 := hg7
              have hax : v7.ownBlock = (Value.slice (some ⟨n4, 0, none⟩) 0 0).ownBlock ∨ ∀ k, v7.ownBlock = some k → D.heap.size ≤ k := hat7
              have hra := HRW.out.app HZ.out hown7 hgx hax HTY7.out
              rw [Nat.zero_add, List.nil_append] at hra
              have HX := Lib.hid (HX.out.keeps hgx (fun f => by have := f.2; have := HM.out; omega))
              have HB := Lib.hid (below_keeps HB.out hgx (fun k f => by have := f.2; have := HM.out; omega))
              have HZ := Lib.hid (Nat.le_trans HZ.out hgx.size)
              first | (have HQ : True := HRA.out; clear HQ) | have HRA := Lib.hid (HRA.out.keeps hgx (HRW.out.apart (e2 := 3) (by decide)))
              first | (have HQ : True := HN.out; clear HQ) | have HN := Lib.hid (HN.out.keeps hgx (HRW.out.apart (e2 := 26) (by decide)))
              obtain ⟨A7, c7, rfl, -⟩ := hra.o.form0
              have HRW := Lib.hid hra
              clear hra hown7 hg7 hat7 HTY7 hzz hgx hax
              obtain ⟨D, rfl⟩ : ∃ D, D = w7 := ⟨_, rfl⟩
              refine hK.out _ _ (fun _ => (box6 HX.out).1) ?_
              clear hK K
              try simp only [Act.put, List.setIfInBounds_toArray, List.set_cons_zero, List.set_cons_succ]
              refine wpAnyK_take2 (i := 16) (some 50) (v := ?v16_15z26) rfl rfl (by kernel_rfl) (by kernel_rfl) (by kernel_rfl) (by kernel_rfl) (fun _ _ _ h => h) (Or.inl ⟨by rfl, ?y16_15z26⟩) (fun _ => (box6 HX.out).1) ?r16_15z26
              case y16_15z26 =>
                intro w hSw
                go_simp
                try with_reducible rfl
              try simp only [Act.put, List.setIfInBounds_toArray, List.set_cons_zero, List.set_cons_succ]
              refine wpAnyK_ready (rs := [18]) (by kernel_rfl) (by simp) ?_
              refine AllReadyK.cons (i := 18) rfl (fun K hK => ?_) ?_
              · obtain ⟨⟨k0, k1, k2, k3, k4, k5⟩, f0, f1, f2, f3, f4, f5⟩ := box6 HN.out.bx
                haveI : Old D nb := ⟨HN.out.bx.lt⟩
                go_simp
                obtain ⟨hbx, hk⟩ := HN.out.fill (.slice A3 x.a.length c3) (.slice A7 x.w.length c7) (.string (B x.g)) (.string (B x.x)) (.string (B x.p)) (.string (B x.s))
                have HX := Lib.hid (HX.out.keeps hk (fun f => by have := HN.out.ge; have := HM.out; omega))
                have HB := Lib.hid (below_keeps HB.out hk (fun k f => by have := HN.out.ge; have := HM.out; omega))
                have HZ := Lib.hid (Nat.le_trans HZ.out hk.size)
                have HRA := Lib.hid (HRA.out.keeps hk (HN.out.apart (e := 3) (by decide)))
                have HRW := Lib.hid (HRW.out.keeps hk (HN.out.apart (e := 9) (by decide)))
                have HN := Lib.hid hbx
                clear hbx hk k0 k1 k2 k3 k4 k5 f0 f1 f2 f3 f4 f5
                generalize World.setCell (World.setCell (World.setCell (World.setCell (World.setCell (World.setCell D _ _) _ _) _ _) _ _) _ _) _ _ = D at *
                refine hK.out _ _ (fun h => Bool.noConfusion ((show unl _ _ = false by kernel_rfl).symm.trans h)) ?_
                clear hK K
                try simp only [Act.put, List.setIfInBounds_toArray, List.set_cons_zero, List.set_cons_succ]
                refine wpAnyK_done (by kernel_rfl) ?_ _
                go_wp2_with fail
                go_meet
                exact ⟨nb, A3, c3, A7, c7, rfl, ⟨HX.out, HB.out, HM.out, HZ.out, HRA.out, HRW.out, HN.out⟩⟩
              exact AllReadyK.nil
            exact AllReadyK.nil
          exact AllReadyK.nil
        exact AllReadyK.nil
      refine AllReadyK.cons (i := 4) rfl (fun K hK => ?_) ?_
      · go_simp
        have hal := below_alloc (Below.refl D.heap.size D) (.cells #[] 9)
        have hnew : Rw (D.alloc (.cells #[] 9)) M 9 (.slice (some ⟨D.heap.size, 0, none⟩) 0 0) 0 [] := ⟨Own.none_ _ _ _ _ _ (by simp), fun k e => (by cases e; exact tyOf_alloc D #[] _), fun k e => (by cases e; exact HZ.out)⟩
        have HX := Lib.hid (HX.out.below hal)
        have HB := Lib.hid (below_then HB.out hal)
        have HZ := Lib.hid (Nat.le_trans HZ.out hal.size)
        first | (have HQ : True := HRA.out; clear HQ) | have HRA := Lib.hid (HRA.out.below hal)
        first | (have HQ : True := HN.out; clear HQ) | have HN := Lib.hid (HN.out.below hal)
        have HRW := Lib.hid hnew
        clear hal hnew
        generalize D.heap.size = n4 at *
        generalize D.alloc (.cells #[] 9) = D at *
        refine hK.out _ _ (fun _ => (box6 HX.out).1) ?_
        clear hK K
        try simp only [Act.put, List.setIfInBounds_toArray, List.set_cons_zero, List.set_cons_succ]
        refine wpAnyK_ready (rs := [3, 17]) (by kernel_rfl) (by simp) ?_
        refine AllReadyK.cons (i := 3) rfl (fun K hK => ?_) ?_
        · have hzz := HZ.out
          (refine step_append_src _ rfl (.tmp 34) (.tmp 36) _ rfl M 3 i0 _ 1 8 Tryz.underlying23 hi0 hz00 hz01 hz02 rfl (by decide) _ 0 [] rfl HRA.out.o _ x.a.length (x.a.flatMap numC) rfl (by rw [num_flat, Nat.mul_one]) (HSA.out.below HB.out) num_one (by unfold maxLen; omega) (by omega) (by first | (simp; done) | omega | (simp; omega)) ?_; intro v3 w3 hown3 hg3 hat3 hty3; have HTY3 := Lib.hid hty3; clear hty3)
          have hgx : Keeps (fun k => (Value.slice (some ⟨n0, 0, none⟩) 0 0).ownBlock = some k ∧ M ≤ k) D w3 := hg3
          have hax : v3.ownBlock = (Value.slice (some ⟨n0, 0, none⟩) 0 0).ownBlock ∨ ∀ k, v3.ownBlock = some k → D.heap.size ≤ k := hat3
          have hra := HRA.out.app HZ.out hown3 hgx hax HTY3.out
          rw [Nat.zero_add, List.nil_append] at hra
          have HX := Lib.hid (HX.out.keeps hgx (fun f => by have := f.2; have := HM.out; omega))
          have HB := Lib.hid (below_keeps HB.out hgx (fun k f => by have := f.2; have := HM.out; omega))
          have HZ := Lib.hid (Nat.le_trans HZ.out hgx.size)
          first | (have HQ : True := HRW.out; clear HQ) | have HRW := Lib.hid (HRW.out.keeps hgx (HRA.out.apart (e2 := 9) (by decide)))
          first | (have HQ : True := HN.out; clear HQ) | have HN := Lib.hid (HN.out.keeps hgx (HRA.out.apart (e2 := 26) (by decide)))
          obtain ⟨A3, c3, rfl, -⟩ := hra.o.form0
          have HRA := Lib.hid hra
          clear hra hown3 hg3 hat3 HTY3 hzz hgx hax
          obtain ⟨D, rfl⟩ : ∃ D, D = w3 := ⟨_, rfl⟩
          refine hK.out _ _ (fun _ => (box6 HX.out).1) ?_
          clear hK K
          try simp only [Act.put, List.setIfInBounds_toArray, List.set_cons_zero, List.set_cons_succ]
          refine wpAnyK_ready (rs := [7, 17]) (by kernel_rfl) (by simp) ?_
          refine AllReadyK.cons (i := 7) rfl (fun K hK => ?_) ?_
          · have hzz := HZ.out
            (refine step_append_src _ rfl (.tmp 38) (.tmp 40) _ rfl M 9 i1 _ 1 16 Tryz.underlying24 hi1 hz10 hz11 hz12 rfl (by decide) _ 0 [] rfl HRW.out.o _ x.w.length (x.w.flatMap strC) rfl (by rw [strC_flat, Nat.mul_one]) (HSW.out.below HB.out) strC_one (by unfold maxLen; omega) (by omega) (by first | (simp; done) | omega | (simp; omega)) ?_; intro v7 w7 hown7 hg7 hat7 hty7; have HTY7 := Lib.hid hty7; clear hty7)
            have hgx : Keeps (fun k => (Value.slice (some ⟨n4, 0, none⟩) 0 0).ownBlock = some k ∧ M ≤ k) D w7 := hg7
            have hax : v7.ownBlock = (Value.slice (some ⟨n4, 0, none⟩) 0 0).ownBlock ∨ ∀ k, v7.ownBlock = some k → D.heap.size ≤ k := hat7
            have hra := HRW.out.app HZ.out hown7 hgx hax HTY7.out
            rw [Nat.zero_add, List.nil_append] at hra
            have HX := Lib.hid (HX.out.keeps hgx (fun f => by have := f.2; have := HM.out; omega))
            have HB := Lib.hid (below_keeps HB.out hgx (fun k f => by have := f.2; have := HM.out; omega))
            have HZ := Lib.hid (Nat.le_trans HZ.out hgx.size)
            first | (have HQ : True := HRA.out; clear HQ) | have HRA := Lib.hid (HRA.out.keeps hgx (HRW.out.apart (e2 := 3) (by decide)))
            first | (have HQ : True := HN.out; clear HQ) | have HN := Lib.hid (HN.out.keeps hgx (HRW.out.apart (e2 := 26) (by decide)))
            obtain ⟨A7, c7, rfl, -⟩ := hra.o.form0
            have HRW := Lib.hid hra
            clear hra hown7 hg7 hat7 HTY7 hzz hgx hax
            obtain ⟨D, rfl⟩ : ∃ D, D = w7 := ⟨_, rfl⟩
            refine hK.out _ _ (fun _ => (box6 HX.out).1) ?_
            clear hK K
            try simp only [Act.put, List.setIfInBounds_toArray, List.set_cons_zero, List.set_cons_succ]
            refine wpAnyK_take2 (i := 16) (some 50) (v := ?v16_16z26) rfl rfl (by kernel_rfl) (by kernel_rfl) (by kernel_rfl) (by kernel_rfl) (fun _ _ _ h => h) (Or.inl ⟨by rfl, ?y16_16z26⟩) (fun _ => (box6 HX.out).1) ?r16_16z26
            case y16_16z26 =>
              intro w hSw
              go_simp
              try with_reducible rfl
            try simp only [Act.put, List.setIfInBounds_toArray, List.set_cons_zero, List.set_cons_succ]
            refine wpAnyK_ready (rs := [17]) (by kernel_rfl) (by simp) ?_
            refine AllReadyK.cons (i := 17) rfl (fun K hK => ?_) ?_
            · go_simp
              have hal := below_alloc (Below.refl D.heap.size D) (.cells #[.slice none 0 0, .slice none 0 0, .string (B []), .string (B []), .string (B []), .string (B [])] 26)
              have hnew := BoxT.new D M [.slice none 0 0, .slice none 0 0, .string (B []), .string (B []), .string (B []), .string (B [])] 26 HZ.out
              have HX := Lib.hid (HX.out.below hal)
              have HB := Lib.hid (below_then HB.out hal)
              have HZ := Lib.hid (Nat.le_trans HZ.out hal.size)
              first | (have HQ : True := HRA.out; clear HQ) | have HRA := Lib.hid (HRA.out.below hal)
              first | (have HQ : True := HRW.out; clear HQ) | have HRW := Lib.hid (HRW.out.below hal)
              have HN := Lib.hid hnew
              clear hal hnew
              generalize D.heap.size = nb at *
              generalize D.alloc (.cells #[.slice none 0 0, .slice none 0 0, .string (B []), .string (B []), .string (B []), .string (B [])] 26) = D at *
              refine hK.out _ _ (fun _ => (box6 HX.out).1) ?_
              clear hK K
              try simp only [Act.put, List.setIfInBounds_toArray, List.set_cons_zero, List.set_cons_succ]
              refine wpAnyK_ready (rs := [18]) (by kernel_rfl) (by simp) ?_
              refine AllReadyK.cons (i := 18) rfl (fun K hK => ?_) ?_
              · obtain ⟨⟨k0, k1, k2, k3, k4, k5⟩, f0, f1, f2, f3, f4, f5⟩ := box6 HN.out.bx
                haveI : Old D nb := ⟨HN.out.bx.lt⟩
                go_simp
                obtain ⟨hbx, hk⟩ := HN.out.fill (.slice A3 x.a.length c3) (.slice A7 x.w.length c7) (.string (B x.g)) (.string (B x.x)) (.string (B x.p)) (.string (B x.s))
                have HX := Lib.hid (HX.out.keeps hk (fun f => by have := HN.out.ge; have := HM.out; omega))
                have HB := Lib.hid (below_keeps HB.out hk (fun k f => by have := HN.out.ge; have := HM.out; omega))
                have HZ := Lib.hid (Nat.le_trans HZ.out hk.size)
                have HRA := Lib.hid (HRA.out.keeps hk (HN.out.apart (e := 3) (by decide)))
                have HRW := Lib.hid (HRW.out.keeps hk (HN.out.apart (e := 9) (by decide)))
                have HN := Lib.hid hbx
                clear hbx hk k0 k1 k2 k3 k4 k5 f0 f1 f2 f3 f4 f5
                generalize World.setCell (World.setCell (World.setCell (World.setCell (World.setCell (World.setCell D _ _) _ _) _ _) _ _) _ _) _ _ = D at *
                refine hK.out _ _ (fun h => Bool.noConfusion ((show unl _ _ = false by kernel_rfl).symm.trans h)) ?_
                clear hK K
                try simp only [Act.put, List.setIfInBounds_toArray, List.set_cons_zero, List.set_cons_succ]
                refine wpAnyK_done (by kernel_rfl) ?_ _
                go_wp2_with fail
                go_meet
                exact ⟨nb, A3, c3, A7, c7, rfl, ⟨HX.out, HB.out, HM.out, HZ.out, HRA.out, HRW.out, HN.out⟩⟩
              exact AllReadyK.nil
            exact AllReadyK.nil
          refine AllReadyK.cons (i := 17) rfl (fun K hK => ?_) ?_
          · go_simp
            have hal := below_alloc (Below.refl D.heap.size D) (.cells #[.slice none 0 0, .slice none 0 0, .string (B []), .string (B []), .string (B []), .string (B [])] 26)
            have hnew := BoxT.new D M [.slice none 0 0, .slice none 0 0, .string (B []), .string (B []), .string (B []), .string (B [])] 26 HZ.out
            have HX := Lib.hid (HX.out.below hal)
            have HB := Lib.hid (below_then HB.out hal)
            have HZ := Lib.hid (Nat.le_trans HZ.out hal.size)
            first | (have HQ : True := HRA.out; clear HQ) | have HRA := Lib.hid (HRA.out.below hal)
            first | (have HQ : True := HRW.out; clear HQ) | have HRW := Lib.hid (HRW.out.below hal)
            have HN := Lib.hid hnew
            clear hal hnew
            generalize D.heap.size = nb at *
            generalize D.alloc (.cells #[.slice none 0 0, .slice none 0 0, .string (B []), .string (B []), .string (B []), .string (B [])] 26) = D at *
            refine hK.out _ _ (fun _ => (box6 HX.out).1) ?_
            clear hK K
            try simp only [Act.put, List.setIfInBounds_toArray, List.set_cons_zero, List.set_cons_succ]
            refine wpAnyK_ready (rs := [7]) (by kernel_rfl) (by simp) ?_
            refine AllReadyK.cons (i := 7) rfl (fun K hK => ?_) ?_
            · have hzz := HZ.out
              (refine step_append_src _ rfl (.tmp 38) (.tmp 40) _ rfl M 9 i1 _ 1 16 Tryz.underlying24 hi1 hz10 hz11 hz12 rfl (by decide) _ 0 [] rfl HRW.out.o _ x.w.length (x.w.flatMap strC) rfl (by rw [strC_flat, Nat.mul_one]) (HSW.out.below HB.out) strC_one (by unfold maxLen; omega) (by omega) (by first | (simp; done) | omega | (simp; omega)) ?_; intro v7 w7 hown7 hg7 hat7 hty7; have HTY7 := Lib.hid hty7; clear hty7)
              have hgx : Keeps (fun k => (Value.slice (some ⟨n4, 0, none⟩) 0 0).ownBlock = some k ∧ M ≤ k) D w7 := hg7
              have hax : v7.ownBlock = (Value.slice (some ⟨n4, 0, none⟩) 0 0).ownBlock ∨ ∀ k, v7.ownBlock = some k → D.heap.size ≤ k := hat7
              have hra := HRW.out.app HZ.out hown7 hgx hax HTY7.out
              rw [Nat.zero_add, List.nil_append] at hra
              have HX := Lib.hid (HX.out.keeps hgx (fun f => by have := f.2; have := HM.out; omega))
              have HB := Lib.hid (below_keeps HB.out hgx (fun k f => by have := f.2; have := HM.out; omega))
              have HZ := Lib.hid (Nat.le_trans HZ.out hgx.size)
              first | (have HQ : True := HRA.out; clear HQ) | have HRA := Lib.hid (HRA.out.keeps hgx (HRW.out.apart (e2 := 3) (by decide)))
              first | (have HQ : True := HN.out; clear HQ) | have HN := Lib.hid (HN.out.keeps hgx (HRW.out.apart (e2 := 26) (by decide)))
              obtain ⟨A7, c7, rfl, -⟩ := hra.o.form0
              have HRW := Lib.hid hra
              clear hra hown7 hg7 hat7 HTY7 hzz hgx hax
              obtain ⟨D, rfl⟩ : ∃ D, D = w7 := ⟨_, rfl⟩
              refine hK.out _ _ (fun _ => (box6 HX.out).1) ?_
              clear hK K
              try simp only [Act.put, List.setIfInBounds_toArray, List.set_cons_zero, List.set_cons_succ]
              refine wpAnyK_take2 (i := 16) (some 50) (v := ?v16_17z26) rfl rfl (by kernel_rfl) (by kernel_rfl) (by kernel_rfl) (by kernel_rfl) (fun _ _ _ h => h) (Or.inl ⟨by rfl, ?y16_17z26⟩) (fun _ => (box6 HX.out).1) ?r16_17z26
              case y16_17z26 =>
                intro w hSw
                go_simp
                try with_reducible rfl
              try simp only [Act.put, List.setIfInBounds_toArray, List.set_cons_zero, List.set_cons_succ]
              refine wpAnyK_ready (rs := [18]) (by kernel_rfl) (by simp) ?_
              refine AllReadyK.cons (i := 18) rfl (fun K hK => ?_) ?_
              · obtain ⟨⟨k0, k1, k2, k3, k4, k5⟩, f0, f1, f2, f3, f4, f5⟩ := box6 HN.out.bx
                haveI : Old D nb := ⟨HN.out.bx.lt⟩
                go_simp
                obtain ⟨hbx, hk⟩ := HN.out.fill (.slice A3 x.a.length c3) (.slice A7 x.w.length c7) (.string (B x.g)) (.string (B x.x)) (.string (B x.p)) (.string (B x.s))
                have HX := Lib.hid (HX.out.keeps hk (fun f => by have := HN.out.ge; have := HM.out; omega))
                have HB := Lib.hid (below_keeps HB.out hk (fun k f => by have := HN.out.ge; have := HM.out; omega))
                have HZ := Lib.hid (Nat.le_trans HZ.out hk.size)
                have HRA := Lib.hid (HRA.out.keeps hk (HN.out.apart (e := 3) (by decide)))
                have HRW := Lib.hid (HRW.out.keeps hk (HN.out.apart (e := 9) (by decide)))
                have HN := Lib.hid hbx
                clear hbx hk k0 k1 k2 k3 k4 k5 f0 f1 f2 f3 f4 f5
                generalize World.setCell (World.setCell (World.setCell (World.setCell (World.setCell (World.setCell D _ _) _ _) _ _) _ _) _ _) _ _ = D at *
                refine hK.out _ _ (fun h => Bool.noConfusion ((show unl _ _ = false by kernel_rfl).symm.trans h)) ?_
                clear hK K
                try simp only [Act.put, List.setIfInBounds_toArray, List.set_cons_zero, List.set_cons_succ]
                refine wpAnyK_done (by kernel_rfl) ?_ _
                go_wp2_with fail
                go_meet
                exact ⟨nb, A3, c3, A7, c7, rfl, ⟨HX.out, HB.out, HM.out, HZ.out, HRA.out, HRW.out, HN.out⟩⟩
              exact AllReadyK.nil
            exact AllReadyK.nil
          exact AllReadyK.nil
        refine AllReadyK.cons (i := 17) rfl (fun K hK => ?_) ?_
        · go_simp
          have hal := below_alloc (Below.refl D.heap.size D) (.cells #[.slice none 0 0, .slice none 0 0, .string (B []), .string (B []), .string (B []), .string (B [])] 26)
          have hnew := BoxT.new D M [.slice none 0 0, .slice none 0 0, .string (B []), .string (B []), .string (B []), .string (B [])] 26 HZ.out
          have HX := Lib.hid (HX.out.below hal)
          have HB := Lib.hid (below_then HB.out hal)
          have HZ := Lib.hid (Nat.le_trans HZ.out hal.size)
          first | (have HQ : True := HRA.out; clear HQ) | have HRA := Lib.hid (HRA.out.below hal)
          first | (have HQ : True := HRW.out; clear HQ) | have HRW := Lib.hid (HRW.out.below hal)
          have HN := Lib.hid hnew
          clear hal hnew
          generalize D.heap.size = nb at *
          generalize D.alloc (.cells #[.slice none 0 0, .slice none 0 0, .string (B []), .string (B []), .string (B []), .string (B [])] 26) = D at *
          refine hK.out _ _ (fun _ => (box6 HX.out).1) ?_
          clear hK K
          try simp only [Act.put, List.setIfInBounds_toArray, List.set_cons_zero, List.set_cons_succ]
          refine wpAnyK_ready (rs := [3]) (by kernel_rfl) (by simp) ?_
          refine AllReadyK.cons (i := 3) rfl (fun K hK => ?_) ?_
          · have hzz := HZ.out
            (refine step_append_src _ rfl (.tmp 34) (.tmp 36) _ rfl M 3 i0 _ 1 8 Tryz.underlying23 hi0 hz00 hz01 hz02 rfl (by decide) _ 0 [] rfl HRA.out.o _ x.a.length (x.a.flatMap numC) rfl (by rw [num_flat, Nat.mul_one]) (HSA.out.below HB.out) num_one (by unfold maxLen; omega) (by omega) (by first | (simp; done) | omega | (simp; omega)) ?_; intro v3 w3 hown3 hg3 hat3 hty3; have HTY3 := Lib.hid hty3; clear hty3)
            have hgx : Keeps (fun k => (Value.slice (some ⟨n0, 0, none⟩) 0 0).ownBlock = some k ∧ M ≤ k) D w3 := hg3
            have hax : v3.ownBlock = (Value.slice (some ⟨n0, 0, none⟩) 0 0).ownBlock ∨ ∀ k, v3.ownBlock = some k → D.heap.size ≤ k := hat3
            have hra := HRA.out.app HZ.out hown3 hgx hax HTY3.out
            rw [Nat.zero_add, List.nil_append] at hra
            have HX := Lib.hid (HX.out.keeps hgx (fun f => by have := f.2; have := HM.out; omega))
            have HB := Lib.hid (below_keeps HB.out hgx (fun k f => by have := f.2; have := HM.out; omega))
            have HZ := Lib.hid (Nat.le_trans HZ.out hgx.size)
            first | (have HQ : True := HRW.out; clear HQ) | have HRW := Lib.hid (HRW.out.keeps hgx (HRA.out.apart (e2 := 9) (by decide)))
            first | (have HQ : True := HN.out; clear HQ) | have HN := Lib.hid (HN.out.keeps hgx (HRA.out.apart (e2 := 26) (by decide)))
            obtain ⟨A3, c3, rfl, -⟩ := hra.o.form0
            have HRA := Lib.hid hra
            clear hra hown3 hg3 hat3 HTY3 hzz hgx hax
            obtain ⟨D, rfl⟩ : ∃ D, D = w3 := ⟨_, rfl⟩
            refine hK.out _ _ (fun _ => (box6 HX.out).1) ?_
            clear hK K
            try simp only [Act.put, List.setIfInBounds_toArray, List.set_cons_zero, List.set_cons_succ]
            refine wpAnyK_ready (rs := [7]) (by kernel_rfl) (by simp) ?_
            refine AllReadyK.cons (i := 7) rfl (fun K hK => ?_) ?_
            · have hzz := HZ.out
              (refine step_append_src _ rfl (.tmp 38) (.tmp 40) _ rfl M 9 i1 _ 1 16 Tryz.underlying24 hi1 hz10 hz11 hz12 rfl (by decide) _ 0 [] rfl HRW.out.o _ x.w.length (x.w.flatMap strC) rfl (by rw [strC_flat, Nat.mul_one]) (HSW.out.below HB.out) strC_one (by unfold maxLen; omega) (by omega) (by first | (simp; done) | omega | (simp; omega)) ?_; intro v7 w7 hown7 hg7 hat7 hty7; have HTY7 := Lib.hid hty7; clear hty7)
              have hgx : Keeps (fun k => (Value.slice (some ⟨n4, 0, none⟩) 0 0).ownBlock = some k ∧ M ≤ k) D w7 := hg7
              have hax : v7.ownBlock = (Value.slice (some ⟨n4, 0, none⟩) 0 0).ownBlock ∨ ∀ k, v7.ownBlock = some k → D.heap.size ≤ k := hat7
              have hra := HRW.out.app HZ.out hown7 hgx hax HTY7.out
              rw [Nat.zero_add, List.nil_append] at hra
              have HX := Lib.hid (HX.out.keeps hgx (fun f => by have := f.2; have := HM.out; omega))
              have HB := Lib.hid (below_keeps HB.out hgx (fun k f => by have := f.2; have := HM.out; omega))
              have HZ := Lib.hid (Nat.le_trans HZ.out hgx.size)
              first | (have HQ : True := HRA.out; clear HQ) | have HRA := Lib.hid (HRA.out.keeps hgx (HRW.out.apart (e2 := 3) (by decide)))
              first | (have HQ : True := HN.out; clear HQ) | have HN := Lib.hid (HN.out.keeps hgx (HRW.out.apart (e2 := 26) (by decide)))
              obtain ⟨A7, c7, rfl, -⟩ := hra.o.form0
              have HRW := Lib.hid hra
              clear hra hown7 hg7 hat7 HTY7 hzz hgx hax
              obtain ⟨D, rfl⟩ : ∃ D, D = w7 := ⟨_, rfl⟩
              refine hK.out _ _ (fun _ => (box6 HX.out).1) ?_
              clear hK K
              try simp only [Act.put, List.setIfInBounds_toArray, List.set_cons_zero, List.set_cons_succ]
              refine wpAnyK_take2 (i := 16) (some 50) (v := ?v16_18z26) rfl rfl (by kernel_rfl) (by kernel_rfl) (by kernel_rfl) (by kernel_rfl) (fun _ _ _ h => h) (Or.inl ⟨by rfl, ?y16_18z26⟩) (fun _ => (box6 HX.out).1) ?r16_18z26
              case y16_18z26 =>
                intro w hSw
                go_simp
                try with_reducible rfl
              try simp only [Act.put, List.setIfInBounds_toArray, List.set_cons_zero, List.set_cons_succ]
              refine wpAnyK_ready (rs := [18]) (by kernel_rfl) (by simp) ?_
              refine AllReadyK.cons (i := 18) rfl (fun K hK => ?_) ?_
              · obtain ⟨⟨k0, k1, k2, k3, k4, k5⟩, f0, f1, f2, f3, f4, f5⟩ := box6 HN.out.bx
                haveI : Old D nb := ⟨HN.out.bx.lt⟩
                go_simp
                obtain ⟨hbx, hk⟩ := HN.out.fill (.slice A3 x.a.length c3) (.slice A7 x.w.length c7) (.string (B x.g)) (.string (B x.x)) (.string (B x.p)) (.string (B x.s))
                have HX := Lib.hid (HX.out.keeps hk (fun f => by have := HN.out.ge; have := HM.out; omega))
                have HB := Lib.hid (below_keeps HB.out hk (fun k f => by have := HN.out.ge; have := HM.out; omega))
                have HZ := Lib.hid (Nat.le_trans HZ.out hk.size)
                have HRA := Lib.hid (HRA.out.keeps hk (HN.out.apart (e := 3) (by decide)))
                have HRW := Lib.hid (HRW.out.keeps hk (HN.out.apart (e := 9) (by decide)))
                have HN := Lib.hid hbx
                clear hbx hk k0 k1 k2 k3 k4 k5 f0 f1 f2 f3 f4 f5
                generalize World.setCell (World.setCell (World.setCell (World.setCell (World.setCell (World.setCell D _ _) _ _) _ _) _ _) _ _) _ _ = D at *
                refine hK.out _ _ (fun h => Bool.noConfusion ((show unl _ _ = false by kernel_rfl).symm.trans h)) ?_
                clear hK K
                try simp only [Act.put, List.setIfInBounds_toArray, List.set_cons_zero, List.set_cons_succ]
                refine wpAnyK_done (by kernel_rfl) ?_ _
                go_wp2_with fail
                go_meet
                exact ⟨nb, A3, c3, A7, c7, rfl, ⟨HX.out, HB.out, HM.out, HZ.out, HRA.out, HRW.out, HN.out⟩⟩
              exact AllReadyK.nil
            exact AllReadyK.nil
          exact AllReadyK.nil
        exact AllReadyK.nil
      refine AllReadyK.cons (i := 17) rfl (fun K hK => ?_) ?_
      · go_simp
        have hal := below_alloc (Below.refl D.heap.size D) (.cells #[.slice none 0 0, .slice none 0 0, .string (B []), .string (B []), .string (B []), .string (B [])] 26)
        have hnew := BoxT.new D M [.slice none 0 0, .slice none 0 0, .string (B []), .string (B []), .string (B []), .string (B [])] 26 HZ.out
        have HX := Lib.hid (HX.out.below hal)
        have HB := Lib.hid (below_then HB.out hal)
        have HZ := Lib.hid (Nat.le_trans HZ.out hal.size)
        first | (have HQ : True := HRA.out; clear HQ) | have HRA := Lib.hid (HRA.out.below hal)
        first | (have HQ : True := HRW.out; clear HQ) | have HRW := Lib.hid (HRW.out.below hal)
        have HN := Lib.hid hnew
        clear hal hnew
        generalize D.heap.size = nb at *
        generalize D.alloc (.cells #[.slice none 0 0, .slice none 0 0, .string (B []), .string (B []), .string (B []), .string (B [])] 26) = D at *
        refine hK.out _ _ (fun _ => (box6 HX.out).1) ?_
        clear hK K
        try simp only [Act.put, List.setIfInBounds_toArray, List.set_cons_zero, List.set_cons_succ]
        refine wpAnyK_ready (rs := [3, 4]) (by kernel_rfl) (by simp) ?_
        refine AllReadyK.cons (i := 3) rfl (fun K hK => ?_) ?_
        · have hzz := HZ.out
          (refine step_append_src _ rfl (.tmp 34) (.tmp 36) _ rfl M 3 i0 _ 1 8 Tryz.underlying23 hi0 hz00 hz01 hz02 rfl (by decide) _ 0 [] rfl HRA.out.o _ x.a.length (x.a.flatMap numC) rfl (by rw [num_flat, Nat.mul_one]) (HSA.out.below HB.out) num_one (by unfold maxLen; omega) (by omega) (by first | (simp; done) | omega | (simp; omega)) ?_; intro v3 w3 hown3 hg3 hat3 hty3; have HTY3 := Lib.hid hty3; clear hty3)
          have hgx : Keeps (fun k => (Value.slice (some ⟨n0, 0, none⟩) 0 0).ownBlock = some k ∧ M ≤ k) D w3 := hg3
          have hax : v3.ownBlock = (Value.slice (some ⟨n0, 0, none⟩) 0 0).ownBlock ∨ ∀ k, v3.ownBlock = some k → D.heap.size ≤ k := hat3
          have hra := HRA.out.app HZ.out hown3 hgx hax HTY3.out
          rw [Nat.zero_add, List.nil_append] at hra
          have HX := Lib.hid (HX.out.keeps hgx (fun f => by have := f.2; have := HM.out; omega))
          have HB := Lib.hid (below_keeps HB.out hgx (fun k f => by have := f.2; have := HM.out; omega))
          have HZ := Lib.hid (Nat.le_trans HZ.out hgx.size)
          first | (have HQ : True := HRW.out; clear HQ) | have HRW := Lib.hid (HRW.out.keeps hgx (HRA.out.apart (e2 := 9) (by decide)))
          first | (have HQ : True := HN.out; clear HQ) | have HN := Lib.hid (HN.out.keeps hgx (HRA.out.apart (e2 := 26) (by decide)))
          obtain ⟨A3, c3, rfl, -⟩ := hra.o.form0
          have HRA := Lib.hid hra
          clear hra hown3 hg3 hat3 HTY3 hzz hgx hax
          obtain ⟨D, rfl⟩ : ∃ D, D = w3 := ⟨_, rfl⟩
          refine hK.out _ _ (fun _ => (box6 HX.out).1) ?_
          clear hK K
          try simp only [Act.put, List.setIfInBounds_toArray, List.set_cons_zero, List.set_cons_succ]
          refine wpAnyK_ready (rs := [4]) (by kernel_rfl) (by simp) ?_
          refine AllReadyK.cons (i := 4) rfl (fun K hK => ?_) ?_
          · go_simp
            have hal := below_alloc (Below.refl D.heap.size D) (.cells #[] 9)
            have hnew : Rw (D.alloc (.cells #[] 9)) M 9 (.slice (some ⟨D.heap.size, 0, none⟩) 0 0) 0 [] := ⟨Own.none_ _ _ _ _ _ (by simp), fun k e => (by cases e; exact tyOf_alloc D #[] _), fun k e => (by cases e; exact HZ.out)⟩
            have HX := Lib.hid (HX.out.below hal)
            have HB := Lib.hid (below_then HB.out hal)
            have HZ := Lib.hid (Nat.le_trans HZ.out hal.size)
            first | (have HQ : True := HRA.out; clear HQ) | have HRA := Lib.hid (HRA.out.below hal)
            first | (have HQ : True := HN.out; clear HQ) | have HN := Lib.hid (HN.out.below hal)
            have HRW := Lib.hid hnew
            clear hal hnew
            generalize D.heap.size = n4 at *
            generalize D.alloc (.cells #[] 9) = D at *
            refine hK.out _ _ (fun _ => (box6 HX.out).1) ?_
            clear hK K
            try simp only [Act.put, List.setIfInBounds_toArray, List.set_cons_zero, List.set_cons_succ]
            refine wpAnyK_ready (rs := [7]) (by kernel_rfl) (by simp) ?_
            refine AllReadyK.cons (i := 7) rfl (fun K hK => ?_) ?_
            · have hzz := HZ.out
              (refine step_append_src _ rfl (.tmp 38) (.tmp 40) _ rfl M 9 i1 _ 1 16 Tryz.underlying24 hi1 hz10 hz11 hz12 rfl (by decide) _ 0 [] rfl HRW.out.o _ x.w.length (x.w.flatMap strC) rfl (by rw [strC_flat, Nat.mul_one]) (HSW.out.below HB.out) strC_one (by unfold maxLen; omega) (by omega) (by first | (simp; done) | omega | (simp; omega)) ?_; intro v7 w7 hown7 hg7 hat7 hty7; have HTY7 := Lib.hid hty7; clear hty7)
              have hgx : Keeps (fun k => (Value.slice (some ⟨n4, 0, none⟩) 0 0).ownBlock = some k ∧ M ≤ k) D w7 := hg7
              have hax : v7.ownBlock = (Value.slice (some ⟨n4, 0, none⟩) 0 0).ownBlock ∨ ∀ k, v7.ownBlock = some k → D.heap.size ≤ k := hat7
              have hra := HRW.out.app HZ.out hown7 hgx hax HTY7.out
              rw [Nat.zero_add, List.nil_append] at hra
              have HX := Lib.hid (HX.out.keeps hgx (fun f => by have := f.2; have := HM.out; omega))
              have HB := Lib.hid (below_keeps HB.out hgx (fun k f => by have := f.2; have := HM.out; omega))
              have HZ := Lib.hid (Nat.le_trans HZ.out hgx.size)
              first | (have HQ : True := HRA.out; clear HQ) | have HRA := Lib.hid (HRA.out.keeps hgx (HRW.out.apart (e2 := 3) (by decide)))
              first | (have HQ : True := HN.out; clear HQ) | have HN := Lib.hid (HN.out.keeps hgx (HRW.out.apart (e2 := 26) (by decide)))
              obtain ⟨A7, c7, rfl, -⟩ := hra.o.form0
              have HRW := Lib.hid hra
              clear hra hown7 hg7 hat7 HTY7 hzz hgx hax
              obtain ⟨D, rfl⟩ : ∃ D, D = w7 := ⟨_, rfl⟩
              refine hK.out _ _ (fun _ => (box6 HX.out).1) ?_
              clear hK K
              try simp only [Act.put, List.setIfInBounds_toArray, List.set_cons_zero, List.set_cons_succ]
              refine wpAnyK_take2 (i := 16) (some 50) (v := ?v16_19z26) rfl rfl (by kernel_rfl) (by kernel_rfl) (by kernel_rfl) (by kernel_rfl) (fun _ _ _ h => h) (Or.inl ⟨by rfl, ?y16_19z26⟩) (fun _ => (box6 HX.out).1) ?r16_19z26
              case y16_19z26 =>
                intro w hSw
                go_simp
                try with_reducible rfl
              try simp only [Act.put, List.setIfInBounds_toArray, List.set_cons_zero, List.set_cons_succ]
              refine wpAnyK_ready (rs := [18]) (by kernel_rfl) (by simp) ?_
              refine AllReadyK.cons (i := 18) rfl (fun K hK => ?_) ?_
              · obtain ⟨⟨k0, k1, k2, k3, k4, k5⟩, f0, f1, f2, f3, f4, f5⟩ := box6 HN.out.bx
                haveI : Old D nb := ⟨HN.out.bx.lt⟩
                go_simp
                obtain ⟨hbx, hk⟩ := HN.out.fill (.slice A3 x.a.length c3) (.slice A7 x.w.length c7) (.string (B x.g)) (.string (B x.x)) (.string (B x.p)) (.string (B x.s))
                have HX := Lib.hid (HX.out.keeps hk (fun f => by have := HN.out.ge; have := HM.out; omega))
                have HB := Lib.hid (below_keeps HB.out hk (fun k f => by have := HN.out.ge; have := HM.out; omega))
                have HZ := Lib.hid (Nat.le_trans HZ.out hk.size)
                have HRA := Lib.hid (HRA.out.keeps hk (HN.out.apart (e := 3) (by decide)))
                have HRW := Lib.hid (HRW.out.keeps hk (HN.out.apart (e := 9) (by decide)))
                have HN := Lib.hid hbx
                clear hbx hk k0 k1 k2 k3 k4 k5 f0 f1 f2 f3 f4 f5
                generalize World.setCell (World.setCell (World.setCell (World.setCell (World.setCell (World.setCell D _ _) _ _) _ _) _ _) _ _) _ _ = D at *
                refine hK.out _ _ (fun h => Bool.noConfusion ((show unl _ _ = false by kernel_rfl).symm.trans h)) ?_
                clear hK K
                try simp only [Act.put, List.setIfInBounds_toArray, List.set_cons_zero, List.set_cons_succ]
                refine wpAnyK_done (by kernel_rfl) ?_ _
                go_wp2_with fail
                go_meet
                exact ⟨nb, A3, c3, A7, c7, rfl, ⟨HX.out, HB.out, HM.out, HZ.out, HRA.out, HRW.out, HN.out⟩⟩
              exact AllReadyK.nil
            exact AllReadyK.nil
          exact AllReadyK.nil
        refine AllReadyK.cons (i := 4) rfl (fun K hK => ?_) ?_
        · go_simp
          have hal := below_alloc (Below.refl D.heap.size D) (.cells #[] 9)
          have hnew : Rw (D.alloc (.cells #[] 9)) M 9 (.slice (some ⟨D.heap.size, 0, none⟩) 0 0) 0 [] := ⟨Own.none_ _ _ _ _ _ (by simp), fun k e => (by cases e; exact tyOf_alloc D #[] _), fun k e => (by cases e; exact HZ.out)⟩
          have HX := Lib.hid (HX.out.below hal)
          have HB := Lib.hid (below_then HB.out hal)
          have HZ := Lib.hid (Nat.le_trans HZ.out hal.size)
          first | (have HQ : True := HRA.out; clear HQ) | have HRA := Lib.hid (HRA.out.below hal)
          first | (have HQ : True := HN.out; clear HQ) | have HN := Lib.hid (HN.out.below hal)
          have HRW := Lib.hid hnew
          clear hal hnew
          generalize D.heap.size = n4 at *
          generalize D.alloc (.cells #[] 9) = D at *
          refine hK.out _ _ (fun _ => (box6 HX.out).1) ?_
          clear hK K
          try simp only [Act.put, List.setIfInBounds_toArray, List.set_cons_zero, List.set_cons_succ]
          refine wpAnyK_ready (rs := [3]) (by kernel_rfl) (by simp) ?_
          refine AllReadyK.cons (i := 3) rfl (fun K hK => ?_) ?_
          · have hzz := HZ.out
            (refine step_append_src _ rfl (.tmp 34) (.tmp 36) _ rfl M 3 i0 _ 1 8 Tryz.underlying23 hi0 hz00 hz01 hz02 rfl (by decide) _ 0 [] rfl HRA.out.o _ x.a.length (x.a.flatMap numC) rfl (by rw [num_flat, Nat.mul_one]) (HSA.out.below HB.out) num_one (by unfold maxLen; omega) (by omega) (by first | (simp; done) | omega | (simp; omega)) ?_; intro v3 w3 hown3 hg3 hat3 hty3; have HTY3 := Lib.hid hty3; clear hty3)
            have hgx : Keeps (fun k => (Value.slice (some ⟨n0, 0, none⟩) 0 0).ownBlock = some k ∧ M ≤ k) D w3 := hg3
            have hax : v3.ownBlock = (Value.slice (some ⟨n0, 0, none⟩) 0 0).ownBlock ∨ ∀ k, v3.ownBlock = some k → D.heap.size ≤ k := hat3
            have hra := HRA.out.app HZ.out hown3 hgx hax HTY3.out
            rw [Nat.zero_add, List.nil_append] at hra
            have HX := Lib.hid (HX.out.keeps hgx (fun f => by have := f.2; have := HM.out; omega))
            have HB := Lib.hid (below_keeps HB.out hgx (fun k f => by have := f.2; have := HM.out; omega))
            have HZ := Lib.hid (Nat.le_trans HZ.out hgx.size)
            first | (have HQ : True := HRW.out; clear HQ) | have HRW := Lib.hid (HRW.out.keeps hgx (HRA.out.apart (e2 := 9) (by decide)))
            first | (have HQ : True := HN.out; clear HQ) | have HN := Lib.hid (HN.out.keeps hgx (HRA.out.apart (e2 := 26) (by decide)))
            obtain ⟨A3, c3, rfl, -⟩ := hra.o.form0
            have HRA := Lib.hid hra
            clear hra hown3 hg3 hat3 HTY3 hzz hgx hax
            obtain ⟨D, rfl⟩ : ∃ D, D = w3 := ⟨_, rfl⟩
            refine hK.out _ _ (fun _ => (box6 HX.out).1) ?_
            clear hK K
            try simp only [Act.put, List.setIfInBounds_toArray, List.set_cons_zero, List.set_cons_succ]
            refine wpAnyK_ready (rs := [7]) (by kernel_rfl) (by simp) ?_
            refine AllReadyK.cons (i := 7) rfl (fun K hK => ?_) ?_
            · have hzz := HZ.out
              (refine step_append_src _ rfl (.tmp 38) (.tmp 40) _ rfl M 9 i1 _ 1 16 Tryz.underlying24 hi1 hz10 hz11 hz12 rfl (by decide) _ 0 [] rfl HRW.out.o _ x.w.length (x.w.flatMap strC) rfl (by rw [strC_flat, Nat.mul_one]) (HSW.out.below HB.out) strC_one (by unfold maxLen; omega) (by omega) (by first | (simp; done) | omega | (simp; omega)) ?_; intro v7 w7 hown7 hg7 hat7 hty7; have HTY7 := Lib.hid hty7; clear hty7)
              have hgx : Keeps (fun k => (Value.slice (some ⟨n4, 0, none⟩) 0 0).ownBlock = some k ∧ M ≤ k) D w7 := hg7
              have hax : v7.ownBlock = (Value.slice (some ⟨n4, 0, none⟩) 0 0).ownBlock ∨ ∀ k, v7.ownBlock = some k → D.heap.size ≤ k := hat7
              have hra := HRW.out.app HZ.out hown7 hgx hax HTY7.out
              rw [Nat.zero_add, List.nil_append] at hra
              have HX := Lib.hid (HX.out.keeps hgx (fun f => by have := f.2; have := HM.out; omega))
              have HB := Lib.hid (below_keeps HB.out hgx (fun k f => by have := f.2; have := HM.out; omega))
              have HZ := Lib.hid (Nat.le_trans HZ.out hgx.size)
              first | (have HQ : True := HRA.out; clear HQ) | have HRA := Lib.hid (HRA.out.keeps hgx (HRW.out.apart (e2 := 3) (by decide)))
              first | (have HQ : True := HN.out; clear HQ) | have HN := Lib.hid (HN.out.keeps hgx (HRW.out.apart (e2 := 26) (by decide)))
              obtain ⟨A7, c7, rfl, -⟩ := hra.o.form0
              have HRW := Lib.hid hra
              clear hra hown7 hg7 hat7 HTY7 hzz hgx hax
              obtain ⟨D, rfl⟩ : ∃ D, D = w7 := ⟨_, rfl⟩
              refine hK.out _ _ (fun _ => (box6 HX.out).1) ?_
              clear hK K
              try simp only [Act.put, List.setIfInBounds_toArray, List.set_cons_zero, List.set_cons_succ]
              refine wpAnyK_take2 (i := 16) (some 50) (v := ?v16_20z26) rfl rfl (by kernel_rfl) (by kernel_rfl) (by kernel_rfl) (by kernel_rfl) (fun _ _ _ h => h) (Or.inl ⟨by rfl, ?y16_20z26⟩) (fun _ => (box6 HX.out).1) ?r16_20z26
              case y16_20z26 =>
                intro w hSw
                go_simp
                try with_reducible rfl
              try simp only [Act.put, List.setIfInBounds_toArray, List.set_cons_zero, List.set_cons_succ]
              refine wpAnyK_ready (rs := [18]) (by kernel_rfl) (by simp) ?_
              refine AllReadyK.cons (i := 18) rfl (fun K hK => ?_) ?_
              · obtain ⟨⟨k0, k1, k2, k3, k4, k5⟩, f0, f1, f2, f3, f4, f5⟩ := box6 HN.out.bx
                haveI : Old D nb := ⟨HN.out.bx.lt⟩
                go_simp
                obtain ⟨hbx, hk⟩ := HN.out.fill (.slice A3 x.a.length c3) (.slice A7 x.w.length c7) (.string (B x.g)) (.string (B x.x)) (.string (B x.p)) (.string (B x.s))
                have HX := Lib.hid (HX.out.keeps hk (fun f => by have := HN.out.ge; have := HM.out; omega))
                have HB := Lib.hid (below_keeps HB.out hk (fun k f => by have := HN.out.ge; have := HM.out; omega))
                have HZ := Lib.hid (Nat.le_trans HZ.out hk.size)
                have HRA := Lib.hid (HRA.out.keeps hk (HN.out.apart (e := 3) (by decide)))
                have HRW := Lib.hid (HRW.out.keeps hk (HN.out.apart (e := 9) (by decide)))
                have HN := Lib.hid hbx
                clear hbx hk k0 k1 k2 k3 k4 k5 f0 f1 f2 f3 f4 f5
                generalize World.setCell (World.setCell (World.setCell (World.setCell (World.setCell (World.setCell D _ _) _ _) _ _) _ _) _ _) _ _ = D at *
                refine hK.out _ _ (fun h => Bool.noConfusion ((show unl _ _ = false by kernel_rfl).symm.trans h)) ?_
                clear hK K
                try simp only [Act.put, List.setIfInBounds_toArray, List.set_cons_zero, List.set_cons_succ]
                refine wpAnyK_done (by kernel_rfl) ?_ _
                go_wp2_with fail
                go_meet
                exact ⟨nb, A3, c3, A7, c7, rfl, ⟨HX.out, HB.out, HM.out, HZ.out, HRA.out, HRW.out, HN.out⟩⟩
              exact AllReadyK.nil
            exact AllReadyK.nil
          exact AllReadyK.nil
        exact AllReadyK.nil
      exact AllReadyK.nil
    refine AllReadyK.cons (i := 4) rfl (fun K hK => ?_) ?_
    · go_simp
      have hal := below_alloc (Below.refl D.heap.size D) (.cells #[] 9)
      have hnew : Rw (D.alloc (.cells #[] 9)) M 9 (.slice (some ⟨D.heap.size, 0, none⟩) 0 0) 0 [] := ⟨Own.none_ _ _ _ _ _ (by simp), fun k e => (by cases e; exact tyOf_alloc D #[] _), fun k e => (by cases e; exact HZ.out)⟩
      have HX := Lib.hid (HX.out.below hal)
      have HB := Lib.hid (below_then HB.out hal)
      have HZ := Lib.hid (Nat.le_trans HZ.out hal.size)
      first | (have HQ : True := HRA.out; clear HQ) | have HRA := Lib.hid (HRA.out.below hal)
      first | (have HQ : True := HN.out; clear HQ) | have HN := Lib.hid (HN.out.below hal)
      have HRW := Lib.hid hnew
      clear hal hnew
      generalize D.heap.size = n4 at *
      generalize D.alloc (.cells #[] 9) = D at *
      refine hK.out _ _ (fun _ => (box6 HX.out).1) ?_
      clear hK K
      try simp only [Act.put, List.setIfInBounds_toArray, List.set_cons_zero, List.set_cons_succ]
      refine wpAnyK_ready (rs := [0, 17]) (by kernel_rfl) (by simp) ?_
      refine AllReadyK.cons (i := 0) rfl (fun K hK => ?_) ?_
      · go_simp
        have hal := below_alloc (Below.refl D.heap.size D) (.cells #[] 3)
        have hnew : Rw (D.alloc (.cells #[] 3)) M 3 (.slice (some ⟨D.heap.size, 0, none⟩) 0 0) 0 [] := ⟨Own.none_ _ _ _ _ _ (by simp), fun k e => (by cases e; exact tyOf_alloc D #[] _), fun k e => (by cases e; exact HZ.out)⟩
        have HX := Lib.hid (HX.out.below hal)
        have HB := Lib.hid (below_then HB.out hal)
        have HZ := Lib.hid (Nat.le_trans HZ.out hal.size)
        first | (have HQ : True := HRW.out; clear HQ) | have HRW := Lib.hid (HRW.out.below hal)
        first | (have HQ : True := HN.out; clear HQ) | have HN := Lib.hid (HN.out.below hal)
        have HRA := Lib.hid hnew
        clear hal hnew
        generalize D.heap.size = n0 at *
        generalize D.alloc (.cells #[] 3) = D at *
        refine hK.out _ _ (fun _ => (box6 HX.out).1) ?_
        clear hK K
        try simp only [Act.put, List.setIfInBounds_toArray, List.set_cons_zero, List.set_cons_succ]
        refine wpAnyK_ready (rs := [3, 17]) (by kernel_rfl) (by simp) ?_
        refine AllReadyK.cons (i := 3) rfl (fun K hK => ?_) ?_
        · have hzz := HZ.out
          (refine step_append_src _ rfl (.tmp 34) (.tmp 36) _ rfl M 3 i0 _ 1 8 Tryz.underlying23 hi0 hz00 hz01 hz02 rfl (by decide) _ 0 [] rfl HRA.out.o _ x.a.length (x.a.flatMap numC) rfl (by rw [num_flat, Nat.mul_one]) (HSA.out.below HB.out) num_one (by unfold maxLen; omega) (by omega) (by first | (simp; done) | omega | (simp; omega)) ?_; intro v3 w3 hown3 hg3 hat3 hty3; have HTY3 := Lib.hid hty3; clear hty3)
          have hgx : Keeps (fun k => (Value.slice (some ⟨n0, 0, none⟩) 0 0).ownBlock = some k ∧ M ≤ k) D w3 := hg3
          have hax : v3.ownBlock = (Value.slice (some ⟨n0, 0, none⟩) 0 0).ownBlock ∨ ∀ k, v3.ownBlock = some k → D.heap.size ≤ k := hat3
          have hra := HRA.out.app HZ.out hown3 hgx hax HTY3.out
          rw [Nat.zero_add, List.nil_append] at hra
          have HX := Lib.hid (HX.out.keeps hgx (fun f => by have := f.2; have := HM.out; omega))
          have HB := Lib.hid (below_keeps HB.out hgx (fun k f => by have := f.2; have := HM.out; omega))
          have HZ := Lib.hid (Nat.le_trans HZ.out hgx.size)
          first | (have HQ : True := HRW.out; clear HQ) | have HRW := Lib.hid (HRW.out.keeps hgx (HRA.out.apart (e2 := 9) (by decide)))
          first | (have HQ : True := HN.out; clear HQ) | have HN := Lib.hid (HN.out.keeps hgx (HRA.out.apart (e2 := 26) (by decide)))
          obtain ⟨A3, c3, rfl, -⟩ := hra.o.form0
          have HRA := Lib.hid hra
          clear hra hown3 hg3 hat3 HTY3 hzz hgx hax
          obtain ⟨D, rfl⟩ : ∃ D, D = w3 := ⟨_, rfl⟩
          refine hK.out _ _ (fun _ => (box6 HX.out).1) ?_
          clear hK K
          try simp only [Act.put, List.setIfInBounds_toArray, List.set_cons_zero, List.set_cons_succ]
          refine wpAnyK_ready (rs := [7, 17]) (by kernel_rfl) (by simp) ?_
          refine AllReadyK.cons (i := 7) rfl (fun K hK => ?_) ?_
          · have hzz := HZ.out
            (refine step_append_src _ rfl (.tmp 38) (.tmp 40) _ rfl M 9 i1 _ 1 16 Tryz.underlying24 hi1 hz10 hz11 hz12 rfl (by decide) _ 0 [] rfl HRW.out.o _ x.w.length (x.w.flatMap strC) rfl (by rw [strC_flat, Nat.mul_one]) (HSW.out.below HB.out) strC_one (by unfold maxLen; omega) (by omega) (by first | (simp; done) | omega | (simp; omega)) ?_; intro v7 w7 hown7 hg7 hat7 hty7; have HTY7 := Lib.hid hty7; clear hty7)
            have hgx : Keeps (fun k => (Value.slice (some ⟨n4, 0, none⟩) 0 0).ownBlock = some k ∧ M ≤ k) D w7 := hg7
            have hax : v7.ownBlock = (Value.slice (some ⟨n4, 0, none⟩) 0 0).ownBlock ∨ ∀ k, v7.ownBlock = some k → D.heap.size ≤ k := hat7
            have hra := HRW.out.app HZ.out hown7 hgx hax HTY7.out
            rw [Nat.zero_add, List.nil_append] at hra
            have HX := Lib.hid (HX.out.keeps hgx (fun f => by have := f.2; have := HM.out; omega))
            have HB := Lib.hid (below_keeps HB.out hgx (fun k f => by have := f.2; have := HM.out; omega))
            have HZ := Lib.hid (Nat.le_trans HZ.out hgx.size)
            first | (have HQ : True := HRA.out; clear HQ) | have HRA := Lib.hid (HRA.out.keeps hgx (HRW.out.apart (e2 := 3) (by decide)))
            first | (have HQ : True := HN.out; clear HQ) | have HN := Lib.hid (HN.out.keeps hgx (HRW.out.apart (e2 := 26) (by decide)))
            obtain ⟨A7, c7, rfl, -⟩ := hra.o.form0
            have HRW := Lib.hid hra
            clear hra hown7 hg7 hat7 HTY7 hzz hgx hax
            obtain ⟨D, rfl⟩ : ∃ D, D = w7 := ⟨_, rfl⟩
            refine hK.out _ _ (fun _ => (box6 HX.out).1) ?_
            clear hK K
            try simp only [Act.put, List.setIfInBounds_toArray, List.set_cons_zero, List.set_cons_succ]
            refine wpAnyK_take2 (i := 16) (some 50) (v := ?v16_21z26) rfl rfl (by kernel_rfl) (by kernel_rfl) (by kernel_rfl) (by kernel_rfl) (fun _ _ _ h => h) (Or.inl ⟨by rfl, ?y16_21z26⟩) (fun _ => (box6 HX.out).1) ?r16_21z26
            case y16_21z26 =>
              intro w hSw
              go_simp
              try with_reducible rfl
            try simp only [Act.put, List.setIfInBounds_toArray, List.set_cons_zero, List.set_cons_succ]
            refine wpAnyK_ready (rs := [17]) (by kernel_rfl) (by simp) ?_
            refine AllReadyK.cons (i := 17) rfl (fun K hK => ?_) ?_
            · go_simp
              have hal := below_alloc (Below.refl D.heap.size D) (.cells #[.slice none 0 0, .slice none 0 0, .string (B []), .string (B []), .string (B []), .string (B [])] 26)
              have hnew := BoxT.new D M [.slice none 0 0, .slice none 0 0, .string (B []), .string (B []), .string (B []), .string (B [])] 26 HZ.out
              have HX := Lib.hid (HX.out.below hal)
              have HB := Lib.hid (below_then HB.out hal)
              have HZ := Lib.hid (Nat.le_trans HZ.out hal.size)
              first | (have HQ : True := HRA.out; clear HQ) | have HRA := Lib.hid (HRA.out.below hal)
              first | (have HQ : True := HRW.out; clear HQ) | have HRW := Lib.hid (HRW.out.below hal)
              have HN := Lib.hid hnew
              clear hal hnew
              generalize D.heap.size = nb at *
              generalize D.alloc (.cells #[.slice none 0 0, .slice none 0 0, .string (B []), .string (B []), .string (B []), .string (B [])] 26) = D at *
              refine hK.out _ _ (fun _ => (box6 HX.out).1) ?_
              clear hK K
              try simp only [Act.put, List.setIfInBounds_toArray, List.set_cons_zero, List.set_cons_succ]
              refine wpAnyK_ready (rs := [18]) (by kernel_rfl) (by simp) ?_
              refine AllReadyK.cons (i := 18) rfl (fun K hK => ?_) ?_
              · obtain ⟨⟨k0, k1, k2, k3, k4, k5⟩, f0, f1, f2, f3, f4, f5⟩ := box6 HN.out.bx
                haveI : Old D nb := ⟨HN.out.bx.lt⟩
                go_simp
                obtain ⟨hbx, hk⟩ := HN.out.fill (.slice A3 x.a.length c3) (.slice A7 x.w.length c7) (.string (B x.g)) (.string (B x.x)) (.string (B x.p)) (.string (B x.s))
                have HX := Lib.hid (HX.out.keeps hk (fun f => by have := HN.out.ge; have := HM.out; omega))
                have HB := Lib.hid (below_keeps HB.out hk (fun k f => by have := HN.out.ge; have := HM.out; omega))
                have HZ := Lib.hid (Nat.le_trans HZ.out hk.size)
                have HRA := Lib.hid (HRA.out.keeps hk (HN.out.apart (e := 3) (by decide)))
                have HRW := Lib.hid (HRW.out.keeps hk (HN.out.apart (e := 9) (by decide)))
                have HN := Lib.hid hbx
                clear hbx hk k0 k1 k2 k3 k4 k5 f0 f1 f2 f3 f4 f5
                generalize World.setCell (World.setCell (World.setCell (World.setCell (World.setCell (World.setCell D _ _) _ _) _ _) _ _) _ _) _ _ = D at *
                refine hK.out _ _ (fun h => Bool.noConfusion ((show unl _ _ = false by kernel_rfl).symm.trans h)) ?_
                clear hK K
                try simp only [Act.put, List.setIfInBounds_toArray, List.set_cons_zero, List.set_cons_succ]
                refine wpAnyK_done (by kernel_rfl) ?_ _
                go_wp2_with fail
                go_meet
                exact ⟨nb, A3, c3, A7, c7, rfl, ⟨HX.out, HB.out, HM.out, HZ.out, HRA.out, HRW.out, HN.out⟩⟩
              exact AllReadyK.nil
            exact AllReadyK.nil
          refine AllReadyK.cons (i := 17) rfl (fun K hK => ?_) ?_
          · go_simp
            have hal := below_alloc (Below.refl D.heap.size D) (.cells #[.slice none 0 0, .slice none 0 0, .string (B []), .string (B []), .string (B []), .string (B [])] 26)
            have hnew := BoxT.new D M [.slice none 0 0, .slice none 0 0, .string (B []), .string (B []), .string (B []), .string (B [])] 26 HZ.out
            have HX := Lib.hid (HX.out.below hal)
            have HB := Lib.hid (below_then HB.out hal)
            have HZ := Lib.hid (Nat.le_trans HZ.out hal.size)
            first | (have HQ : True := HRA.out; clear HQ) | have HRA := Lib.hid (HRA.out.below hal)
            first | (have HQ : True := HRW.out; clear HQ) | have HRW := Lib.hid (HRW.out.below hal)
            have HN := Lib.hid hnew
            clear hal hnew
            generalize D.heap.size = nb at *
            generalize D.alloc (.cells #[.slice none 0 0, .slice none 0 0, .string (B []), .string (B []), .string (B []), .string (B [])] 26) = D at *
            refine hK.out _ _ (fun _ => (box6 HX.out).1) ?_
            clear hK K
            try simp only [Act.put, List.setIfInBounds_toArray, List.set_cons_zero, List.set_cons_succ]
            refine wpAnyK_ready (rs := [7]) (by kernel_rfl) (by simp) ?_
            refine AllReadyK.cons (i := 7) rfl (fun K hK => ?_) ?_
            · have hzz := HZ.out
              (refine step_append_src _ rfl (.tmp 38) (.tmp 40) _ rfl M 9 i1 _ 1 16 Tryz.underlying24 hi1 hz10 hz11 hz12 rfl (by decide) _ 0 [] rfl HRW.out.o _ x.w.length (x.w.flatMap strC) rfl (by rw [strC_flat, Nat.mul_one]) (HSW.out.below HB.out) strC_one (by unfold maxLen; omega) (by omega) (by first | (simp; done) | omega | (simp; omega)) ?_; intro v7 w7 hown7 hg7 hat7 hty7; have HTY7 := Lib.hid hty7; clear hty7)
              have hgx : Keeps (fun k => (Value.slice (some ⟨n4, 0, none⟩) 0 0).ownBlock = some k ∧ M ≤ k) D w7 := hg7
              have hax : v7.ownBlock = (Value.slice (some ⟨n4, 0, none⟩) 0 0).ownBlock ∨ ∀ k, v7.ownBlock = some k → D.heap.size ≤ k := hat7
              have hra := HRW.out.app HZ.out hown7 hgx hax HTY7.out
              rw [Nat.zero_add, List.nil_append] at hra
              have HX := Lib.hid (HX.out.keeps hgx (fun f => by have := f.2; have := HM.out; omega))
              have HB := Lib.hid (below_keeps HB.out hgx (fun k f => by have := f.2; have := HM.out; omega))
              have HZ := Lib.hid (Nat.le_trans HZ.out hgx.size)
              first | (have HQ : True := HRA.out; clear HQ) | have HRA := Lib.hid (HRA.out.keeps hgx (HRW.out.apart (e2 := 3) (by decide)))
              first | (have HQ : True := HN.out; clear HQ) | have HN := Lib.hid (HN.out.keeps hgx (HRW.out.apart (e2 := 26) (by decide)))
              obtain ⟨A7, c7, rfl, -⟩ := hra.o.form0
              have HRW := Lib.hid hra
              clear hra hown7 hg7 hat7 HTY7 hzz hgx hax
              obtain ⟨D, rfl⟩ : ∃ D, D = w7 := ⟨_, rfl⟩
              refine hK.out _ _ (fun _ => (box6 HX.out).1) ?_
              clear hK K
              try simp only [Act.put, List.setIfInBounds_toArray, List.set_cons_zero, List.set_cons_succ]
              refine wpAnyK_take2 (i := 16) (some 50) (v := ?v16_22z26) rfl rfl (by kernel_rfl) (by kernel_rfl) (by kernel_rfl) (by kernel_rfl) (fun _ _ _ h => h) (Or.inl ⟨by rfl, ?y16_22z26⟩) (fun _ => (box6 HX.out).1) ?r16_22z26
              case y16_22z26 =>
                intro w hSw
                go_simp
                try with_reducible rfl
              try simp only [Act.put, List.setIfInBounds_toArray, List.set_cons_zero, List.set_cons_succ]
              refine wpAnyK_ready (rs := [18]) (by kernel_rfl) (by simp) ?_
              refine AllReadyK.cons (i := 18) rfl (fun K hK => ?_) ?_
              · obtain ⟨⟨k0, k1, k2, k3, k4, k5⟩, f0, f1, f2, f3, f4, f5⟩ := box6 HN.out.bx
                haveI : Old D nb := ⟨HN.out.bx.lt⟩
                go_simp
                obtain ⟨hbx, hk⟩ := HN.out.fill (.slice A3 x.a.length c3) (.slice A7 x.w.length c7) (.string (B x.g)) (.string (B x.x)) (.string (B x.p)) (.string (B x.s))
                have HX := Lib.hid (HX.out.keeps hk (fun f => by have := HN.out.ge; have := HM.out; omega))
                have HB := Lib.hid (below_keeps HB.out hk (fun k f => by have := HN.out.ge; have := HM.out; omega))
                have HZ := Lib.hid (Nat.le_trans HZ.out hk.size)
                have HRA := Lib.hid (HRA.out.keeps hk (HN.out.apart (e := 3) (by decide)))
                have HRW := Lib.hid (HRW.out.keeps hk (HN.out.apart (e := 9) (by decide)))
                have HN := Lib.hid hbx
                clear hbx hk k0 k1 k2 k3 k4 k5 f0 f1 f2 f3 f4 f5
                generalize World.setCell (World.setCell (World.setCell (World.setCell (World.setCell (World.setCell D _ _) _ _) _ _) _ _) _ _) _ _ = D at *
                refine hK.out _ _ (fun h => Bool.noConfusion ((show unl _ _ = false by kernel_rfl).symm.trans h)) ?_
                clear hK K
                try simp only [Act.put, List.setIfInBounds_toArray, List.set_cons_zero, List.set_cons_succ]
                refine wpAnyK_done (by kernel_rfl) ?_ _
                go_wp2_with fail
                go_meet
                exact ⟨nb, A3, c3, A7, c7, rfl, ⟨HX.out, HB.out, HM.out, HZ.out, HRA.out, HRW.out, HN.out⟩⟩
              exact AllReadyK.nil
            exact AllReadyK.nil
          exact AllReadyK.nil
        refine AllReadyK.cons (i := 17) rfl (fun K hK => ?_) ?_
        · go_simp
          have hal := below_alloc (Below.refl D.heap.size D) (.cells #[.slice none 0 0, .slice none 0 0, .string (B []), .string (B []), .string (B []), .string (B [])] 26)
          have hnew := BoxT.new D M [.slice none 0 0, .slice none 0 0, .string (B []), .string (B []), .string (B []), .string (B [])] 26 HZ.out
          have HX := Lib.hid (HX.out.below hal)
          have HB := Lib.hid (below_then HB.out hal)
          have HZ := Lib.hid (Nat.le_trans HZ.out hal.size)
          first | (have HQ : True := HRA.out; clear HQ) | have HRA := Lib.hid (HRA.out.below hal)
          first | (have HQ : True := HRW.out; clear HQ) | have HRW := Lib.hid (HRW.out.below hal)
          have HN := Lib.hid hnew
          clear hal hnew
          generalize D.heap.size = nb at *
          generalize D.alloc (.cells #[.slice none 0 0, .slice none 0 0, .string (B []), .string (B []), .string (B []), .string (B [])] 26) = D at *
          refine hK.out _ _ (fun _ => (box6 HX.out).1) ?_
          clear hK K
          try simp only [Act.put, List.setIfInBounds_toArray, List.set_cons_zero, List.set_cons_succ]
          refine wpAnyK_ready (rs := [3]) (by kernel_rfl) (by simp) ?_
          refine AllReadyK.cons (i := 3) rfl (fun K hK => ?_) ?_
          · have hzz := HZ.out
            (refine step_append_src _ rfl (.tmp 34) (.tmp 36) _ rfl M 3 i0 _ 1 8 Tryz.underlying23 hi0 hz00 hz01 hz02 rfl (by decide) _ 0 [] rfl HRA.out.o _ x.a.length (x.a.flatMap numC) rfl (by rw [num_flat, Nat.mul_one]) (HSA.out.below HB.out) num_one (by unfold maxLen; omega) (by omega) (by first | (simp; done) | omega | (simp; omega)) ?_; intro v3 w3 hown3 hg3 hat3 hty3; have HTY3 := Lib.hid hty3; clear hty3)
            have hgx : Keeps (fun k => (Value.slice (some ⟨n0, 0, none⟩) 0 0).ownBlock = some k ∧ M ≤ k) D w3 := hg3
            have hax : v3.ownBlock = (Value.slice (some ⟨n0, 0, none⟩) 0 0).ownBlock ∨ ∀ k, v3.ownBlock = some k → D.heap.size ≤ k := hat3
            have hra := HRA.out.app HZ.out hown3 hgx hax HTY3.out
            rw [Nat.zero_add, List.nil_append] at hra
            have HX := Lib.hid (HX.out.keeps hgx (fun f => by have := f.2; have := HM.out; omega))
            have HB := Lib.hid (below_keeps HB.out hgx (fun k f => by have := f.2; have := HM.out; omega))
            have HZ := Lib.hid (Nat.le_trans HZ.out hgx.size)
            first | (have HQ : True := HRW.out; clear HQ) | have HRW := Lib.hid (HRW.out.keeps hgx (HRA.out.apart (e2 := 9) (by decide)))
            first | (have HQ : True := HN.out; clear HQ) | have HN := Lib.hid (HN.out.keeps hgx (HRA.out.apart (e2 := 26) (by decide)))
            obtain ⟨A3, c3, rfl, -⟩ := hra.o.form0
            have HRA := Lib.hid hra
            clear hra hown3 hg3 hat3 HTY3 hzz hgx hax
            obtain ⟨D, rfl⟩ : ∃ D, D = w3 := ⟨_, rfl⟩
            refine hK.out _ _ (fun _ => (box6 HX.out).1) ?_
            clear hK K
            try simp only [Act.put, List.setIfInBounds_toArray, List.set_cons_zero, List.set_cons_succ]
            refine wpAnyK_ready (rs := [7]) (by kernel_rfl) (by simp) ?_
            refine AllReadyK.cons (i := 7) rfl (fun K hK => ?_) ?_
            · have hzz := HZ.out
              (refine step_append_src _ rfl (.tmp 38) (.tmp 40) _ rfl M 9 i1 _ 1 16 Tryz.underlying24 hi1 hz10 hz11 hz12 rfl (by decide) _ 0 [] rfl HRW.out.o _ x.w.length (x.w.flatMap strC) rfl (by rw [strC_flat, Nat.mul_one]) (HSW.out.below HB.out) strC_one (by unfold maxLen; omega) (by omega) (by first | (simp; done) | omega | (simp; omega)) ?_; intro v7 w7 hown7 hg7 hat7 hty7; have HTY7 := Lib.hid hty7; clear hty7)
              have hgx : Keeps (fun k => (Value.slice (some ⟨n4, 0, none⟩) 0 0).ownBlock = some k ∧ M ≤ k) D w7 := hg7
              have hax : v7.ownBlock = (Value.slice (some ⟨n4, 0, none⟩) 0 0).ownBlock ∨ ∀ k, v7.ownBlock = some k → D.heap.size ≤ k := hat7
              have hra := HRW.out.app HZ.out hown7 hgx hax HTY7.out
              rw [Nat.zero_add, List.nil_append] at hra
              have HX := Lib.hid (HX.out.keeps hgx (fun f => by have := f.2; have := HM.out; omega))
              have HB := Lib.hid (below_keeps HB.out hgx (fun k f => by have := f.2; have := HM.out; omega))
              have HZ := Lib.hid (Nat.le_trans HZ.out hgx.size)
              first | (have HQ : True := HRA.out; clear HQ) | have HRA := Lib.hid (HRA.out.keeps hgx (HRW.out.apart (e2 := 3) (by decide)))
              first | (have HQ : True := HN.out; clear HQ) | have HN := Lib.hid (HN.out.keeps hgx (HRW.out.apart (e2 := 26) (by decide)))
              obtain ⟨A7, c7, rfl, -⟩ := hra.o.form0
              have HRW := Lib.hid hra
              clear hra hown7 hg7 hat7 HTY7 hzz hgx hax
              obtain ⟨D, rfl⟩ : ∃ D, D = w7 := ⟨_, rfl⟩
              refine hK.out _ _ (fun _ => (box6 HX.out).1) ?_
              clear hK K
              try simp only [Act.put, List.setIfInBounds_toArray, List.set_cons_zero, List.set_cons_succ]
              refine wpAnyK_take2 (i := 16) (some 50) (v := ?v16_23z26) rfl rfl (by kernel_rfl) (by kernel_rfl) (by kernel_rfl) (by kernel_rfl) (fun _ _ _ h => h) (Or.inl ⟨by rfl, ?y16_23z26⟩) (fun _ => (box6 HX.out).1) ?r16_23z26
              case y16_23z26 =>
                intro w hSw
                go_simp
                try with_reducible rfl
              try simp only [Act.put, List.setIfInBounds_toArray, List.set_cons_zero, List.set_cons_succ]
              refine wpAnyK_ready (rs := [18]) (by kernel_rfl) (by simp) ?_
              refine AllReadyK.cons (i := 18) rfl (fun K hK => ?_) ?_
              · obtain ⟨⟨k0, k1, k2, k3, k4, k5⟩, f0, f1, f2, f3, f4, f5⟩ := box6 HN.out.bx
                haveI : Old D nb := ⟨HN.out.bx.lt⟩
                go_simp
                obtain ⟨hbx, hk⟩ := HN.out.fill (.slice A3 x.a.length c3) (.slice A7 x.w.length c7) (.string (B x.g)) (.string (B x.x)) (.string (B x.p)) (.string (B x.s))
                have HX := Lib.hid (HX.out.keeps hk (fun f => by have := HN.out.ge; have := HM.out; omega))
                have HB := Lib.hid (below_keeps HB.out hk (fun k f => by have := HN.out.ge; have := HM.out; omega))
                have HZ := Lib.hid (Nat.le_trans HZ.out hk.size)
                have HRA := Lib.hid (HRA.out.keeps hk (HN.out.apart (e := 3) (by decide)))
                have HRW := Lib.hid (HRW.out.keeps hk (HN.out.apart (e := 9) (by decide)))
                have HN := Lib.hid hbx
                clear hbx hk k0 k1 k2 k3 k4 k5 f0 f1 f2 f3 f4 f5
                generalize World.setCell (World.setCell (World.setCell (World.setCell (World.setCell (World.setCell D _ _) _ _) _ _) _ _) _ _) _ _ = D at *
                refine hK.out _ _ (fun h => Bool.noConfusion ((show unl _ _ = false by kernel_rfl).symm.trans h)) ?_
                clear hK K
                try simp only [Act.put, List.setIfInBounds_toArray, List.set_cons_zero, List.set_cons_succ]
                refine wpAnyK_done (by kernel_rfl) ?_ _
                go_wp2_with fail
                go_meet
                exact ⟨nb, A3, c3, A7, c7, rfl, ⟨HX.out, HB.out, HM.out, HZ.out, HRA.out, HRW.out, HN.out⟩⟩
              exact AllReadyK.nil
            exact AllReadyK.nil
          exact AllReadyK.nil
        exact AllReadyK.nil
      refine AllReadyK.cons (i := 17) rfl (fun K hK => ?_) ?_
      · go_simp
        have hal := below_alloc (Below.refl D.heap.size D) (.cells #[.slice none 0 0, .slice none 0 0, .string (B []), .string (B []), .string (B []), .string (B [])] 26)
        have hnew := BoxT.new D M [.slice none 0 0, .slice none 0 0, .string (B []), .string (B []), .string (B []), .string (B [])] 26 HZ.out
        have HX := Lib.hid (HX.out.below hal)
        have HB := Lib.hid (below_then HB.out hal)
        have HZ := Lib.hid (Nat.le_trans HZ.out hal.size)
        first | (have HQ : True := HRA.out; clear HQ) | have HRA := Lib.hid (HRA.out.below hal)
        first | (have HQ : True := HRW.out; clear HQ) | have HRW := Lib.hid (HRW.out.below hal)
        have HN := Lib.hid hnew
        clear hal hnew
        generalize D.heap.size = nb at *
        generalize D.alloc (.cells #[.slice none 0 0, .slice none 0 0, .string (B []), .string (B []), .string (B []), .string (B [])] 26) = D at *
        refine hK.out _ _ (fun _ => (box6 HX.out).1) ?_
        clear hK K
        try simp only [Act.put, List.setIfInBounds_toArray, List.set_cons_zero, List.set_cons_succ]
        refine wpAnyK_ready (rs := [0]) (by kernel_rfl) (by simp) ?_
        refine AllReadyK.cons (i := 0) rfl (fun K hK => ?_) ?_
        · go_simp
          have hal := below_alloc (Below.refl D.heap.size D) (.cells #[] 3)
          have hnew : Rw (D.alloc (.cells #[] 3)) M 3 (.slice (some ⟨D.heap.size, 0, none⟩) 0 0) 0 [] := ⟨Own.none_ _ _ _ _ _ (by simp), fun k e => (by cases e; exact tyOf_alloc D #[] _), fun k e => (by cases e; exact HZ.out)⟩
          have HX := Lib.hid (HX.out.below hal)
          have HB := Lib.hid (below_then HB.out hal)
          have HZ := Lib.hid (Nat.le_trans HZ.out hal.size)
          first | (have HQ : True := HRW.out; clear HQ) | have HRW := Lib.hid (HRW.out.below hal)
          first | (have HQ : True := HN.out; clear HQ) | have HN := Lib.hid (HN.out.below hal)
          have HRA := Lib.hid hnew
          clear hal hnew
          generalize D.heap.size = n0 at *
          generalize D.alloc (.cells #[] 3) = D at *
          refine hK.out _ _ (fun _ => (box6 HX.out).1) ?_
          clear hK K
          try simp only [Act.put, List.setIfInBounds_toArray, List.set_cons_zero, List.set_cons_succ]
          refine wpAnyK_ready (rs := [3]) (by kernel_rfl) (by simp) ?_
          refine AllReadyK.cons (i := 3) rfl (fun K hK => ?_) ?_
          · have hzz := HZ.out
            (refine step_append_src _ rfl (.tmp 34) (.tmp 36) _ rfl M 3 i0 _ 1 8 Tryz.underlying23 hi0 hz00 hz01 hz02 rfl (by decide) _ 0 [] rfl HRA.out.o _ x.a.length (x.a.flatMap numC) rfl (by rw [num_flat, Nat.mul_one]) (HSA.out.below HB.out) num_one (by unfold maxLen; omega) (by omega) (by first | (simp; done) | omega | (simp; omega)) ?_; intro v3 w3 hown3 hg3 hat3 hty3; have HTY3 := Lib.hid hty3; clear hty3)
            have hgx : Keeps (fun k => (Value.slice (some ⟨n0, 0, none⟩) 0 0).ownBlock = some k ∧ M ≤ k) D w3 := hg3
            have hax : v3.ownBlock = (Value.slice (some ⟨n0, 0, none⟩) 0 0).ownBlock ∨ ∀ k, v3.ownBlock = some k → D.heap.size ≤ k := hat3
            have hra := HRA.out.app HZ.out hown3 hgx hax HTY3.out
            rw [Nat.zero_add, List.nil_append] at hra
            have HX := Lib.hid (HX.out.keeps hgx (fun f => by have := f.2; have := HM.out; omega))
            have HB := Lib.hid (below_keeps HB.out hgx (fun k f => by have := f.2; have := HM.out; omega))
            have HZ := Lib.hid (Nat.le_trans HZ.out hgx.size)
            first | (have HQ : True := HRW.out; clear HQ) | have HRW := Lib.hid (HRW.out.keeps hgx (HRA.out.apart (e2 := 9) (by decide)))
            first | (have HQ : True := HN.out; clear HQ) | have HN := Lib.hid (HN.out.keeps hgx (HRA.out.apart (e2 := 26) (by decide)))
            obtain ⟨A3, c3, rfl, -⟩ := hra.o.form0
            have HRA := Lib.hid hra
            clear hra hown3 hg3 hat3 HTY3 hzz hgx hax
            obtain ⟨D, rfl⟩ : ∃ D, D = w3 := ⟨_, rfl⟩
            refine hK.out _ _ (fun _ => (box6 HX.out).1) ?_
            clear hK K
            try simp only [Act.put, List.setIfInBounds_toArray, List.set_cons_zero, List.set_cons_succ]
            refine wpAnyK_ready (rs := [7]) (by kernel_rfl) (by simp) ?_
            refine AllReadyK.cons (i := 7) rfl (fun K hK => ?_) ?_
            · have hzz := HZ.out
              (refine step_append_src _ rfl (.tmp 38) (.tmp 40) _ rfl M 9 i1 _ 1 16 Tryz.underlying24 hi1 hz10 hz11 hz12 rfl (by decide) _ 0 [] rfl HRW.out.o _ x.w.length (x.w.flatMap strC) rfl (by rw [strC_flat, Nat.mul_one]) (HSW.out.below HB.out) strC_one (by unfold maxLen; omega) (by omega) (by first | (simp; done) | omega | (simp; omega)) ?_; intro v7 w7 hown7 hg7 hat7 hty7; have HTY7 := Lib.hid hty7; clear hty7)
              have hgx : Keeps (fun k => (Value.slice (some ⟨n4, 0, none⟩) 0 0).ownBlock = some k ∧ M ≤ k) D w7 := hg7
              have hax : v7.ownBlock = (Value.slice (some ⟨n4, 0, none⟩) 0 0).ownBlock ∨ ∀ k, v7.ownBlock = some k → D.heap.size ≤ k := hat7
              have hra := HRW.out.app HZ.out hown7 hgx hax HTY7.out
              rw [Nat.zero_add, List.nil_append] at hra
              have HX := Lib.hid (HX.out.keeps hgx (fun f => by have := f.2; have := HM.out; omega))
              have HB := Lib.hid (below_keeps HB.out hgx (fun k f => by have := f.2; have := HM.out; omega))
              have HZ := Lib.hid (Nat.le_trans HZ.out hgx.size)
              first | (have HQ : True := HRA.out; clear HQ) | have HRA := Lib.hid (HRA.out.keeps hgx (HRW.out.apart (e2 := 3) (by decide)))
              first | (have HQ : True := HN.out; clear HQ) | have HN := Lib.hid (HN.out.keeps hgx (HRW.out.apart (e2 := 26) (by decide)))
              obtain ⟨A7, c7, rfl, -⟩ := hra.o.form0
              have HRW := Lib.hid hra
              clear hra hown7 hg7 hat7 HTY7 hzz hgx hax
              obtain ⟨D, rfl⟩ : ∃ D, D = w7 := ⟨_, rfl⟩
              refine hK.out _ _ (fun _ => (box6 HX.out).1) ?_
              clear hK K
              try simp only [Act.put, List.setIfInBounds_toArray, List.set_cons_zero, List.set_cons_succ]
              refine wpAnyK_take2 (i := 16) (some 50) (v := ?v16_24z26) rfl rfl (by kernel_rfl) (by kernel_rfl) (by kernel_rfl) (by kernel_rfl) (fun _ _ _ h => h) (Or.inl ⟨by rfl, ?y16_24z26⟩) (fun _ => (box6 HX.out).1) ?r16_24z26
              case y16_24z26 =>
                intro w hSw
                go_simp
                try with_reducible rfl
              try simp only [Act.put, List.setIfInBounds_toArray, List.set_cons_zero, List.set_cons_succ]
              refine wpAnyK_ready (rs := [18]) (by kernel_rfl) (by simp) ?_
              refine AllReadyK.cons (i := 18) rfl (fun K hK => ?_) ?_
              · obtain ⟨⟨k0, k1, k2, k3, k4, k5⟩, f0, f1, f2, f3, f4, f5⟩ := box6 HN.out.bx
                haveI : Old D nb := ⟨HN.out.bx.lt⟩
                go_simp
                obtain ⟨hbx, hk⟩ := HN.out.fill (.slice A3 x.a.length c3) (.slice A7 x.w.length c7) (.string (B x.g)) (.string (B x.x)) (.string (B x.p)) (.string (B x.s))
                have HX := Lib.hid (HX.out.keeps hk (fun f => by have := HN.out.ge; have := HM.out; omega))
                have HB := Lib.hid (below_keeps HB.out hk (fun k f => by have := HN.out.ge; have := HM.out; omega))
                have HZ := Lib.hid (Nat.le_trans HZ.out hk.size)
                have HRA := Lib.hid (HRA.out.keeps hk (HN.out.apart (e := 3) (by decide)))
                have HRW := Lib.hid (HRW.out.keeps hk (HN.out.apart (e := 9) (by decide)))
                have HN := Lib.hid hbx
                clear hbx hk k0 k1 k2 k3 k4 k5 f0 f1 f2 f3 f4 f5
                generalize World.setCell (World.setCell (World.setCell (World.setCell (World.setCell (World.setCell D _ _) _ _) _ _) _ _) _ _) _ _ = D at *
                refine hK.out _ _ (fun h => Bool.noConfusion ((show unl _ _ = false by kernel_rfl).symm.trans h)) ?_
                clear hK K
                try simp only [Act.put, List.setIfInBounds_toArray, List.set_cons_zero, List.set_cons_succ]
                refine wpAnyK_done (by kernel_rfl) ?_ _
                go_wp2_with fail
                go_meet
                exact ⟨nb, A3, c3, A7, c7, rfl, ⟨HX.out, HB.out, HM.out, HZ.out, HRA.out, HRW.out, HN.out⟩⟩
              exact AllReadyK.nil
            exact AllReadyK.nil
          exact AllReadyK.nil
        exact AllReadyK.nil
      exact AllReadyK.nil
    refine AllReadyK.cons (i := 17) rfl (fun K hK => ?_) ?_
    · go_simp
      have hal := below_alloc (Below.refl D.heap.size D) (.cells #[.slice none 0 0, .slice none 0 0, .string (B []), .string (B []), .string (B []), .string (B [])] 26)
      have hnew := BoxT.new D M [.slice none 0 0, .slice none 0 0, .string (B []), .string (B []), .string (B []), .string (B [])] 26 HZ.out
      have HX := Lib.hid (HX.out.below hal)
      have HB := Lib.hid (below_then HB.out hal)
      have HZ := Lib.hid (Nat.le_trans HZ.out hal.size)
      first | (have HQ : True := HRA.out; clear HQ) | have HRA := Lib.hid (HRA.out.below hal)
      first | (have HQ : True := HRW.out; clear HQ) | have HRW := Lib.hid (HRW.out.below hal)
      have HN := Lib.hid hnew
      clear hal hnew
      generalize D.heap.size = nb at *
      generalize D.alloc (.cells #[.slice none 0 0, .slice none 0 0, .string (B []), .string (B []), .string (B []), .string (B [])] 26) = D at *
      refine hK.out _ _ (fun _ => (box6 HX.out).1) ?_
      clear hK K
      try simp only [Act.put, List.setIfInBounds_toArray, List.set_cons_zero, List.set_cons_succ]
      refine wpAnyK_ready (rs := [0, 4]) (by kernel_rfl) (by simp) ?_
      refine AllReadyK.cons (i := 0) rfl (fun K hK => ?_) ?_
      · go_simp
        have hal := below_alloc (Below.refl D.heap.size D) (.cells #[] 3)
        have hnew : Rw (D.alloc (.cells #[] 3)) M 3 (.slice (some ⟨D.heap.size, 0, none⟩) 0 0) 0 [] := ⟨Own.none_ _ _ _ _ _ (by simp), fun k e => (by cases e; exact tyOf_alloc D #[] _), fun k e => (by cases e; exact HZ.out)⟩
        have HX := Lib.hid (HX.out.below hal)
        have HB := Lib.hid (below_then HB.out hal)
        have HZ := Lib.hid (Nat.le_trans HZ.out hal.size)
        first | (have HQ : True := HRW.out; clear HQ) | have HRW := Lib.hid (HRW.out.below hal)
        first | (have HQ : True := HN.out; clear HQ) | have HN := Lib.hid (HN.out.below hal)
        have HRA := Lib.hid hnew
        clear hal hnew
        generalize D.heap.size = n0 at *
        generalize D.alloc (.cells #[] 3) = D at *
        refine hK.out _ _ (fun _ => (box6 HX.out).1) ?_
        clear hK K
        try simp only [Act.put, List.setIfInBounds_toArray, List.set_cons_zero, List.set_cons_succ]
        refine wpAnyK_ready (rs := [3, 4]) (by kernel_rfl) (by simp) ?_
        refine AllReadyK.cons (i := 3) rfl (fun K hK => ?_) ?_
        · have hzz := HZ.out
          (refine step_append_src _ rfl (.tmp 34) (.tmp 36) _ rfl M 3 i0 _ 1 8 Tryz.underlying23 hi0 hz00 hz01 hz02 rfl (by decide) _ 0 [] rfl HRA.out.o _ x.a.length (x.a.flatMap numC) rfl (by rw [num_flat, Nat.mul_one]) (HSA.out.below HB.out) num_one (by unfold maxLen; omega) (by omega) (by first | (simp; done) | omega | (simp; omega)) ?_; intro v3 w3 hown3 hg3 hat3 hty3; have HTY3 := Lib.hid hty3; clear hty3)
          have hgx : Keeps (fun k => (Value.slice (some ⟨n0, 0, none⟩) 0 0).ownBlock = some k ∧ M ≤ k) D w3 := hg3
          have hax : v3.ownBlock = (Value.slice (some ⟨n0, 0, none⟩) 0 0).ownBlock ∨ ∀ k, v3.ownBlock = some k → D.heap.size ≤ k := hat3
          have hra := HRA.out.app HZ.out hown3 hgx hax HTY3.out
          rw [Nat.zero_add, List.nil_append] at hra
          have HX := Lib.hid (HX.out.keeps hgx (fun f => by have := f.2; have := HM.out; omega))
          have HB := Lib.hid (below_keeps HB.out hgx (fun k f => by have := f.2; have := HM.out; omega))
          have HZ := Lib.hid (Nat.le_trans HZ.out hgx.size)
          first | (have HQ : True := HRW.out; clear HQ) | have HRW := Lib.hid (HRW.out.keeps hgx (HRA.out.apart (e2 := 9) (by decide)))
          first | (have HQ : True := HN.out; clear HQ) | have HN := Lib.hid (HN.out.keeps hgx (HRA.out.apart (e2 := 26) (by decide)))
          obtain ⟨A3, c3, rfl, -⟩ := hra.o.form0
          have HRA := Lib.hid hra
          clear hra hown3 hg3 hat3 HTY3 hzz hgx hax
          obtain ⟨D, rfl⟩ : ∃ D, D = w3 := ⟨_, rfl⟩
          refine hK.out _ _ (fun _ => (box6 HX.out).1) ?_
          clear hK K
          try simp only [Act.put, List.setIfInBounds_toArray, List.set_cons_zero, List.set_cons_succ]
          refine wpAnyK_ready (rs := [4]) (by kernel_rfl) (by simp) ?_
          refine AllReadyK.cons (i := 4) rfl (fun K hK => ?_) ?_
          · go_simp
            have hal := below_alloc (Below.refl D.heap.size D) (.cells #[] 9)
            have hnew : Rw (D.alloc (.cells #[] 9)) M 9 (.slice (some ⟨D.heap.size, 0, none⟩) 0 0) 0 [] := ⟨Own.none_ _ _ _ _ _ (by simp), fun k e => (by cases e; exact tyOf_alloc D #[] _), fun k e => (by cases e; exact HZ.out)⟩
            have HX := Lib.hid (HX.out.below hal)
            have HB := Lib.hid (below_then HB.out hal)
            have HZ := Lib.hid (Nat.le_trans HZ.out hal.size)
            first | (have HQ : True := HRA.out; clear HQ) | have HRA := Lib.hid (HRA.out.below hal)
            first | (have HQ : True := HN.out; clear HQ) | have HN := Lib.hid (HN.out.below hal)
            have HRW := Lib.hid hnew
            clear hal hnew
            generalize D.heap.size = n4 at *
            generalize D.alloc (.cells #[] 9) = D at *
            refine hK.out _ _ (fun _ => (box6 HX.out).1) ?_
            clear hK K
            try simp only [Act.put, List.setIfInBounds_toArray, List.set_cons_zero, List.set_cons_succ]
            refine wpAnyK_ready (rs := [7]) (by kernel_rfl) (by simp) ?_
            refine AllReadyK.cons (i := 7) rfl (fun K hK => ?_) ?_
            · have hzz := HZ.out
              (refine step_append_src _ rfl (.tmp 38) (.tmp 40) _ rfl M 9 i1 _ 1 16 Tryz.underlying24 hi1 hz10 hz11 hz12 rfl (by decide) _ 0 [] rfl HRW.out.o _ x.w.length (x.w.flatMap strC) rfl (by rw [strC_flat, Nat.mul_one]) (HSW.out.below HB.out) strC_one (by unfold maxLen; omega) (by omega) (by first | (simp; done) | omega | (simp; omega)) ?_; intro v7 w7 hown7 hg7 hat7 hty7; have HTY7 := Lib.hid hty7; clear hty7)
              have hgx : Keeps (fun k => (Value.slice (some ⟨n4, 0, none⟩) 0 0).ownBlock = some k ∧ M ≤ k) D w7 := hg7
              have hax : v7.ownBlock = (Value.slice (some ⟨n4, 0, none⟩) 0 0).ownBlock ∨ ∀ k, v7.ownBlock = some k → D.heap.size ≤ k := hat7
              have hra := HRW.out.app HZ.out hown7 hgx hax HTY7.out
              rw [Nat.zero_add, List.nil_append] at hra
              have HX := Lib.hid (HX.out.keeps hgx (fun f => by have := f.2; have := HM.out; omega))
              have HB := Lib.hid (below_keeps HB.out hgx (fun k f => by have := f.2; have := HM.out; omega))
              have HZ := Lib.hid (Nat.le_trans HZ.out hgx.size)
              first | (have HQ : True := HRA.out; clear HQ) | have HRA := Lib.hid (HRA.out.keeps hgx (HRW.out.apart (e2 := 3) (by decide)))
              first | (have HQ : True := HN.out; clear HQ) | have HN := Lib.hid (HN.out.keeps hgx (HRW.out.apart (e2 := 26) (by decide)))
              obtain ⟨A7, c7, rfl, -⟩ := hra.o.form0
              have HRW := Lib.hid hra
              clear hra hown7 hg7 hat7 HTY7 hzz hgx hax
              obtain ⟨D, rfl⟩ : ∃ D, D = w7 := ⟨_, rfl⟩
              refine hK.out _ _ (fun _ => (box6 HX.out).1) ?_
              clear hK K
              try simp only [Act.put, List.setIfInBounds_toArray, List.set_cons_zero, List.set_cons_succ]
              refine wpAnyK_take2 (i := 16) (some 50) (v := ?v16_25z26) rfl rfl (by kernel_rfl) (by kernel_rfl) (by kernel_rfl) (by kernel_rfl) (fun _ _ _ h => h) (Or.inl ⟨by rfl, ?y16_25z26⟩) (fun _ => (box6 HX.out).1) ?r16_25z26
              case y16_25z26 =>
                intro w hSw
                go_simp
                try with_reducible rfl
              try simp only [Act.put, List.setIfInBounds_toArray, List.set_cons_zero, List.set_cons_succ]
              refine wpAnyK_ready (rs := [18]) (by kernel_rfl) (by simp) ?_
              refine AllReadyK.cons (i := 18) rfl (fun K hK => ?_) ?_
              · obtain ⟨⟨k0, k1, k2, k3, k4, k5⟩, f0, f1, f2, f3, f4, f5⟩ := box6 HN.out.bx
                haveI : Old D nb := ⟨HN.out.bx.lt⟩
                go_simp
                obtain ⟨hbx, hk⟩ := HN.out.fill (.slice A3 x.a.length c3) (.slice A7 x.w.length c7) (.string (B x.g)) (.string (B x.x)) (.string (B x.p)) (.string (B x.s))
                have HX := Lib.hid (HX.out.keeps hk (fun f => by have := HN.out.ge; have := HM.out; omega))
                have HB := Lib.hid (below_keeps HB.out hk (fun k f => by have := HN.out.ge; have := HM.out; omega))
                have HZ := Lib.hid (Nat.le_trans HZ.out hk.size)
                have HRA := Lib.hid (HRA.out.keeps hk (HN.out.apart (e := 3) (by decide)))
                have HRW := Lib.hid (HRW.out.keeps hk (HN.out.apart (e := 9) (by decide)))
                have HN := Lib.hid hbx
                clear hbx hk k0 k1 k2 k3 k4 k5 f0 f1 f2 f3 f4 f5
                generalize World.setCell (World.setCell (World.setCell (World.setCell (World.setCell (World.setCell D _ _) _ _) _ _) _ _) _ _) _ _ = D at *
                refine hK.out _ _ (fun h => Bool.noConfusion ((show unl _ _ = false by kernel_rfl).symm.trans h)) ?_
                clear hK K
                try simp only [Act.put, List.setIfInBounds_toArray, List.set_cons_zero, List.set_cons_succ]
                refine wpAnyK_done (by kernel_rfl) ?_ _
                go_wp2_with fail
                go_meet
                exact ⟨nb, A3, c3, A7, c7, rfl, ⟨HX.out, HB.out, HM.out, HZ.out, HRA.out, HRW.out, HN.out⟩⟩
              exact AllReadyK.nil
            exact AllReadyK.nil
          exact AllReadyK.nil
        refine AllReadyK.cons (i := 4) rfl (fun K hK => ?_) ?_
        · go_simp
          have hal := below_alloc (Below.refl D.heap.size D) (.cells #[] 9)
          have hnew : Rw (D.alloc (.cells #[] 9)) M 9 (.slice (some ⟨D.heap.size, 0, none⟩) 0 0) 0 [] := ⟨Own.none_ _ _ _ _ _ (by simp), fun k e => (by cases e; exact tyOf_alloc D #[] _), fun k e => (by cases e; exact HZ.out)⟩
          have HX := Lib.hid (HX.out.below hal)
          have HB := Lib.hid (below_then HB.out hal)
          have HZ := Lib.hid (Nat.le_trans HZ.out hal.size)
          first | (have HQ : True := HRA.out; clear HQ) | have HRA := Lib.hid (HRA.out.below hal)
          first | (have HQ : True := HN.out; clear HQ) | have HN := Lib.hid (HN.out.below hal)
          have HRW := Lib.hid hnew
          clear hal hnew
          generalize D.heap.size = n4 at *
          generalize D.alloc (.cells #[] 9) = D at *
          refine hK.out _ _ (fun _ => (box6 HX.out).1) ?_
          clear hK K
          try simp only [Act.put, List.setIfInBounds_toArray, List.set_cons_zero, List.set_cons_succ]
          refine wpAnyK_ready (rs := [3]) (by kernel_rfl) (by simp) ?_
          refine AllReadyK.cons (i := 3) rfl (fun K hK => ?_) ?_
          · have hzz := HZ.out
            (refine step_append_src _ rfl (.tmp 34) (.tmp 36) _ rfl M 3 i0 _ 1 8 Tryz.underlying23 hi0 hz00 hz01 hz02 rfl (by decide) _ 0 [] rfl HRA.out.o _ x.a.length (x.a.flatMap numC) rfl (by rw [num_flat, Nat.mul_one]) (HSA.out.below HB.out) num_one (by unfold maxLen; omega) (by omega) (by first | (simp; done) | omega | (simp; omega)) ?_; intro v3 w3 hown3 hg3 hat3 hty3; have HTY3 := Lib.hid hty3; clear hty3)
            have hgx : Keeps (fun k => (Value.slice (some ⟨n0, 0, none⟩) 0 0).ownBlock = some k ∧ M ≤ k) D w3 := hg3
            have hax : v3.ownBlock = (Value.slice (some ⟨n0, 0, none⟩) 0 0).ownBlock ∨ ∀ k, v3.ownBlock = some k → D.heap.size ≤ k := hat3
            have hra := HRA.out.app HZ.out hown3 hgx hax HTY3.out
            rw [Nat.zero_add, List.nil_append] at hra
            have HX := Lib.hid (HX.out.keeps hgx (fun f => by have := f.2; have := HM.out; omega))
            have HB := Lib.hid (below_keeps HB.out hgx (fun k f => by have := f.2; have := HM.out; omega))
            have HZ := Lib.hid (Nat.le_trans HZ.out hgx.size)
            first | (have HQ : True := HRW.out; clear HQ) | have HRW := Lib.hid (HRW.out.keeps hgx (HRA.out.apart (e2 := 9) (by decide)))
            first | (have HQ : True := HN.out; clear HQ) | have HN := Lib.hid (HN.out.keeps hgx (HRA.out.apart (e2 := 26) (by decide)))
            obtain ⟨A3, c3, rfl, -⟩ := hra.o.form0
            have HRA := Lib.hid hra
            clear hra hown3 hg3 hat3 HTY3 hzz hgx hax
            obtain ⟨D, rfl⟩ : ∃ D, D = w3 := ⟨_, rfl⟩
            refine hK.out _ _ (fun _ => (box6 HX.out).1) ?_
            clear hK K
            try simp only [Act.put, List.setIfInBounds_toArray, List.set_cons_zero, List.set_cons_succ]
            refine wpAnyK_ready (rs := [7]) (by kernel_rfl) (by simp) ?_
            refine AllReadyK.cons (i := 7) rfl (fun K hK => ?_) ?_
            · have hzz := HZ.out
              (refine step_append_src _ rfl (.tmp 38) (.tmp 40) _ rfl M 9 i1 _ 1 16 Tryz.underlying24 hi1 hz10 hz11 hz12 rfl (by decide) _ 0 [] rfl HRW.out.o _ x.w.length (x.w.flatMap strC) rfl (by rw [strC_flat, Nat.mul_one]) (HSW.out.below HB.out) strC_one (by unfold maxLen; omega) (by omega) (by first | (simp; done) | omega | (simp; omega)) ?_; intro v7 w7 hown7 hg7 hat7 hty7; have HTY7 := Lib.hid hty7; clear hty7)
              have hgx : Keeps (fun k => (Value.slice (some ⟨n4, 0, none⟩) 0 0).ownBlock = some k ∧ M ≤ k) D w7 := hg7
              have hax : v7.ownBlock = (Value.slice (some ⟨n4, 0, none⟩) 0 0).ownBlock ∨ ∀ k, v7.ownBlock = some k → D.heap.size ≤ k := hat7
              have hra := HRW.out.app HZ.out hown7 hgx hax HTY7.out
              rw [Nat.zero_add, List.nil_append] at hra
              have HX := Lib.hid (HX.out.keeps hgx (fun f => by have := f.2; have := HM.out; omega))
              have HB := Lib.hid (below_keeps HB.out hgx (fun k f => by have := f.2; have := HM.out; omega))
              have HZ := Lib.hid (Nat.le_trans HZ.out hgx.size)
              first | (have HQ : True := HRA.out; clear HQ) | have HRA := Lib.hid (HRA.out.keeps hgx (HRW.out.apart (e2 := 3) (by decide)))
              first | (have HQ : True := HN.out; clear HQ) | have HN := Lib.hid (HN.out.keeps hgx (HRW.out.apart (e2 := 26) (by decide)))
              obtain ⟨A7, c7, rfl, -⟩ := hra.o.form0
              have HRW := Lib.hid hra
              clear hra hown7 hg7 hat7 HTY7 hzz hgx hax
              obtain ⟨D, rfl⟩ : ∃ D, D = w7 := ⟨_, rfl⟩
              refine hK.out _ _ (fun _ => (box6 HX.out).1) ?_
              clear hK K
              try simp only [Act.put, List.setIfInBounds_toArray, List.set_cons_zero, List.set_cons_succ]
              refine wpAnyK_take2 (i := 16) (some 50) (v := ?v16_26z26) rfl rfl (by kernel_rfl) (by kernel_rfl) (by kernel_rfl) (by kernel_rfl) (fun _ _ _ h => h) (Or.inl ⟨by rfl, ?y16_26z26⟩) (fun _ => (box6 HX.out).1) ?r16_26z26
              case y16_26z26 =>
                intro w hSw
                go_simp
                try with_reducible rfl
              try simp only [Act.put, List.setIfInBounds_toArray, List.set_cons_zero, List.set_cons_succ]
              refine wpAnyK_ready (rs := [18]) (by kernel_rfl) (by simp) ?_
              refine AllReadyK.cons (i := 18) rfl (fun K hK => ?_) ?_
              · obtain ⟨⟨k0, k1, k2, k3, k4, k5⟩, f0, f1, f2, f3, f4, f5⟩ := box6 HN.out.bx
                haveI : Old D nb := ⟨HN.out.bx.lt⟩
                go_simp
                obtain ⟨hbx, hk⟩ := HN.out.fill (.slice A3 x.a.length c3) (.slice A7 x.w.length c7) (.string (B x.g)) (.string (B x.x)) (.string (B x.p)) (.string (B x.s))
                have HX := Lib.hid (HX.out.keeps hk (fun f => by have := HN.out.ge; have := HM.out; omega))
                have HB := Lib.hid (below_keeps HB.out hk (fun k f => by have := HN.out.ge; have := HM.out; omega))
                have HZ := Lib.hid (Nat.le_trans HZ.out hk.size)
                have HRA := Lib.hid (HRA.out.keeps hk (HN.out.apart (e := 3) (by decide)))
                have HRW := Lib.hid (HRW.out.keeps hk (HN.out.apart (e := 9) (by decide)))
                have HN := Lib.hid hbx
                clear hbx hk k0 k1 k2 k3 k4 k5 f0 f1 f2 f3 f4 f5
                generalize World.setCell (World.setCell (World.setCell (World.setCell (World.setCell (World.setCell D _ _) _ _) _ _) _ _) _ _) _ _ = D at *
                refine hK.out _ _ (fun h => Bool.noConfusion ((show unl _ _ = false by kernel_rfl).symm.trans h)) ?_
                clear hK K
                try simp only [Act.put, List.setIfInBounds_toArray, List.set_cons_zero, List.set_cons_succ]
                refine wpAnyK_done (by kernel_rfl) ?_ _
                go_wp2_with fail
                go_meet
                exact ⟨nb, A3, c3, A7, c7, rfl, ⟨HX.out, HB.out, HM.out, HZ.out, HRA.out, HRW.out, HN.out⟩⟩
              exact AllReadyK.nil
            exact AllReadyK.nil
          exact AllReadyK.nil
        exact AllReadyK.nil
      refine AllReadyK.cons (i := 4) rfl (fun K hK => ?_) ?_
      · go_simp
        have hal := below_alloc (Below.refl D.heap.size D) (.cells #[] 9)
        have hnew : Rw (D.alloc (.cells #[] 9)) M 9 (.slice (some ⟨D.heap.size, 0, none⟩) 0 0) 0 [] := ⟨Own.none_ _ _ _ _ _ (by simp), fun k e => (by cases e; exact tyOf_alloc D #[] _), fun k e => (by cases e; exact HZ.out)⟩
        have HX := Lib.hid (HX.out.below hal)
        have HB := Lib.hid (below_then HB.out hal)
        have HZ := Lib.hid (Nat.le_trans HZ.out hal.size)
        first | (have HQ : True := HRA.out; clear HQ) | have HRA := Lib.hid (HRA.out.below hal)
        first | (have HQ : True := HN.out; clear HQ) | have HN := Lib.hid (HN.out.below hal)
        have HRW := Lib.hid hnew
        clear hal hnew
        generalize D.heap.size = n4 at *
        generalize D.alloc (.cells #[] 9) = D at *
        refine hK.out _ _ (fun _ => (box6 HX.out).1) ?_
        clear hK K
        try simp only [Act.put, List.setIfInBounds_toArray, List.set_cons_zero, List.set_cons_succ]
        refine wpAnyK_ready (rs := [0]) (by kernel_rfl) (by simp) ?_
        refine AllReadyK.cons (i := 0) rfl (fun K hK => ?_) ?_
        · go_simp
          have hal := below_alloc (Below.refl D.heap.size D) (.cells #[] 3)
          have hnew : Rw (D.alloc (.cells #[] 3)) M 3 (.slice (some ⟨D.heap.size, 0, none⟩) 0 0) 0 [] := ⟨Own.none_ _ _ _ _ _ (by simp), fun k e => (by cases e; exact tyOf_alloc D #[] _), fun k e => (by cases e; exact HZ.out)⟩
          have HX := Lib.hid (HX.out.below hal)
          have HB := Lib.hid (below_then HB.out hal)
          have HZ := Lib.hid (Nat.le_trans HZ.out hal.size)
          first | (have HQ : True := HRW.out; clear HQ) | have HRW := Lib.hid (HRW.out.below hal)
          first | (have HQ : True := HN.out; clear HQ) | have HN := Lib.hid (HN.out.below hal)
          have HRA := Lib.hid hnew
          clear hal hnew
          generalize D.heap.size = n0 at *
          generalize D.alloc (.cells #[] 3) = D at *
          refine hK.out _ _ (fun _ => (box6 HX.out).1) ?_
          clear hK K
          try simp only [Act.put, List.setIfInBounds_toArray, List.set_cons_zero, List.set_cons_succ]
          refine wpAnyK_ready (rs := [3]) (by kernel_rfl) (by simp) ?_
          refine AllReadyK.cons (i := 3) rfl (fun K hK => ?_) ?_
          · have hzz := HZ.out
            (refine step_append_src _ rfl (.tmp 34) (.tmp 36) _ rfl M 3 i0 _ 1 8 Tryz.underlying23 hi0 hz00 hz01 hz02 rfl (by decide) _ 0 [] rfl HRA.out.o _ x.a.length (x.a.flatMap numC) rfl (by rw [num_flat, Nat.mul_one]) (HSA.out.below HB.out) num_one (by unfold maxLen; omega) (by omega) (by first | (simp; done) | omega | (simp; omega)) ?_; intro v3 w3 hown3 hg3 hat3 hty3; have HTY3 := Lib.hid hty3; clear hty3)
            have hgx : Keeps (fun k => (Value.slice (some ⟨n0, 0, none⟩) 0 0).ownBlock = some k ∧ M ≤ k) D w3 := hg3
            have hax : v3.ownBlock = (Value.slice (some ⟨n0, 0, none⟩) 0 0).ownBlock ∨ ∀ k, v3.ownBlock = some k → D.heap.size ≤ k := hat3
            have hra := HRA.out.app HZ.out hown3 hgx hax HTY3.out
            rw [Nat.zero_add, List.nil_append] at hra
            have HX := Lib.hid (HX.out.keeps hgx (fun f => by have := f.2; have := HM.out; omega))
            have HB := Lib.hid (below_keeps HB.out hgx (fun k f => by have := f.2; have := HM.out; omega))
            have HZ := Lib.hid (Nat.le_trans HZ.out hgx.size)
            first | (have HQ : True := HRW.out; clear HQ) | have HRW := Lib.hid (HRW.out.keeps hgx (HRA.out.apart (e2 := 9) (by decide)))
            first | (have HQ : True := HN.out; clear HQ) | have HN := Lib.hid (HN.out.keeps hgx (HRA.out.apart (e2 := 26) (by decide)))
            obtain ⟨A3, c3, rfl, -⟩ := hra.o.form0
            have HRA := Lib.hid hra
            clear hra hown3 hg3 hat3 HTY3 hzz hgx hax
            obtain ⟨D, rfl⟩ : ∃ D, D = w3 := ⟨_, rfl⟩
            refine hK.out _ _ (fun _ => (box6 HX.out).1) ?_
            clear hK K
            try simp only [Act.put, List.setIfInBounds_toArray, List.set_cons_zero, List.set_cons_succ]
            refine wpAnyK_ready (rs := [7]) (by kernel_rfl) (by simp) ?_
            refine AllReadyK.cons (i := 7) rfl (fun K hK => ?_) ?_
            · have hzz := HZ.out
              (refine step_append_src _ rfl (.tmp 38) (.tmp 40) _ rfl M 9 i1 _ 1 16 Tryz.underlying24 hi1 hz10 hz11 hz12 rfl (by decide) _ 0 [] rfl HRW.out.o _ x.w.length (x.w.flatMap strC) rfl (by rw [strC_flat, Nat.mul_one]) (HSW.out.below HB.out) strC_one (by unfold maxLen; omega) (by omega) (by first | (simp; done) | omega | (simp; omega)) ?_; intro v7 w7 hown7 hg7 hat7 hty7; have HTY7 := Lib.hid hty7; clear hty7)
              have hgx : Keeps (fun k => (Value.slice (some ⟨n4, 0, none⟩) 0 0).ownBlock = some k ∧ M ≤ k) D w7 := hg7
              have hax : v7.ownBlock = (Value.slice (some ⟨n4, 0, none⟩) 0 0).ownBlock ∨ ∀ k, v7.ownBlock = some k → D.heap.size ≤ k := hat7
              have hra := HRW.out.app HZ.out hown7 hgx hax HTY7.out
              rw [Nat.zero_add, List.nil_append] at hra
              have HX := Lib.hid (HX.out.keeps hgx (fun f => by have := f.2; have := HM.out; omega))
              have HB := Lib.hid (below_keeps HB.out hgx (fun k f => by have := f.2; have := HM.out; omega))
              have HZ := Lib.hid (Nat.le_trans HZ.out hgx.size)
              first | (have HQ : True := HRA.out; clear HQ) | have HRA := Lib.hid (HRA.out.keeps hgx (HRW.out.apart (e2 := 3) (by decide)))
              first | (have HQ : True := HN.out; clear HQ) | have HN := Lib.hid (HN.out.keeps hgx (HRW.out.apart (e2 := 26) (by decide)))
              obtain ⟨A7, c7, rfl, -⟩ := hra.o.form0
              have HRW := Lib.hid hra
              clear hra hown7 hg7 hat7 HTY7 hzz hgx hax
              obtain ⟨D, rfl⟩ : ∃ D, D = w7 := ⟨_, rfl⟩
              refine hK.out _ _ (fun _ => (box6 HX.out).1) ?_
              clear hK K
              try simp only [Act.put, List.setIfInBounds_toArray, List.set_cons_zero, List.set_cons_succ]
              refine wpAnyK_take2 (i := 16) (some 50) (v := ?v16_27z26) rfl rfl (by kernel_rfl) (by kernel_rfl) (by kernel_rfl) (by kernel_rfl) (fun _ _ _ h => h) (Or.inl ⟨by rfl, ?y16_27z26⟩) (fun _ => (box6 HX.out).1) ?r16_27z26
              case y16_27z26 =>
                intro w hSw
                go_simp
                try with_reducible rfl
              try simp only [Act.put, List.setIfInBounds_toArray, List.set_cons_zero, List.set_cons_succ]
              refine wpAnyK_ready (rs := [18]) (by kernel_rfl) (by simp) ?_
              refine AllReadyK.cons (i := 18) rfl (fun K hK => ?_) ?_
              · obtain ⟨⟨k0, k1, k2, k3, k4, k5⟩, f0, f1, f2, f3, f4, f5⟩ := box6 HN.out.bx
                haveI : Old D nb := ⟨HN.out.bx.lt⟩
                go_simp
                obtain ⟨hbx, hk⟩ := HN.out.fill (.slice A3 x.a.length c3) (.slice A7 x.w.length c7) (.string (B x.g)) (.string (B x.x)) (.string (B x.p)) (.string (B x.s))
                have HX := Lib.hid (HX.out.keeps hk (fun f => by have := HN.out.ge; have := HM.out; omega))
                have HB := Lib.hid (below_keeps HB.out hk (fun k f => by have := HN.out.ge; have := HM.out; omega))
                have HZ := Lib.hid (Nat.le_trans HZ.out hk.size)
                have HRA := Lib.hid (HRA.out.keeps hk (HN.out.apart (e := 3) (by decide)))
                have HRW := Lib.hid (HRW.out.keeps hk (HN.out.apart (e := 9) (by decide)))
                have HN := Lib.hid hbx
                clear hbx hk k0 k1 k2 k3 k4 k5 f0 f1 f2 f3 f4 f5
                generalize World.setCell (World.setCell (World.setCell (World.setCell (World.setCell (World.setCell D _ _) _ _) _ _) _ _) _ _) _ _ = D at *
                refine hK.out _ _ (fun h => Bool.noConfusion ((show unl _ _ = false by kernel_rfl).symm.trans h)) ?_
                clear hK K
                try simp only [Act.put, List.setIfInBounds_toArray, List.set_cons_zero, List.set_cons_succ]
                refine wpAnyK_done (by kernel_rfl) ?_ _
                go_wp2_with fail
                go_meet
                exact ⟨nb, A3, c3, A7, c7, rfl, ⟨HX.out, HB.out, HM.out, HZ.out, HRA.out, HRW.out, HN.out⟩⟩
              exact AllReadyK.nil
            exact AllReadyK.nil
          exact AllReadyK.nil
        exact AllReadyK.nil
      exact AllReadyK.nil
    exact AllReadyK.nil
  case rest =>
    obtain ⟨ob, A3, c3, A7, c7, rfl, HP⟩ := hcut
    clear HB4 HBX4 HMW HSA HSW HM
    obtain ⟨⟨c0, c1, c2, c3', c4, c5⟩, -⟩ := box6 HP.out.n.bx
    haveI : Old wc ob := ⟨HP.out.n.bx.lt⟩
    have HNW := Lib.hid (new20_any wc)
    have HST := Lib.hid fun W (hb : Below wc.heap.size wc W) (hr : RegAt W (wc.heap.size + 1) (wc.heap.size + 1) wc.heap.size (.slice none 0 0) []) => set20_any W (wc.heap.size + 1) (wc.heap.size + 1) wc.heap.size (.slice none 0 0) [] s (.slice A3 x.a.length c3) (.slice A7 x.w.length c7) x hr (by simp) (by omega) ((HP.out.ra.o.below hb).sl (fun _ _ => rfl) rfl) ((HP.out.rw.o.below hb).sl (fun _ _ => rfl) rfl) (by omega) (by omega)
    rw [HCK.out, if_pos rfl] at HST
    unfold SetP at HST
    have HSM := Lib.hid fun (u1 u2 : Value) W (h1 : Sl W numC 1 u1 x.a) (h2 : Sl W strC 1 u2 x.w) (hb : Below w.heap.size w W) => same20_any u1 u2 (.slice Aa x.a.length ca) (.slice Aw x.w.length cw) x x W h1 h2 (HA.out.below hb) (HW.out.below hb) (by omega) (by omega)
    rw [sameB_self] at HSM
    go_wp2_with (first
      | (go_at_call 14; refine HNW.out.mono ?_; rintro e5 w5 ⟨rfl, hr5, hb5⟩; have HR5 := Lib.hid hr5; have HB5 := Lib.hid hb5; have hx5 := HP.out.n.bx.below hb5; obtain ⟨⟨d0, d1, d2, d3, d4, d5⟩, -⟩ := box6 hx5; haveI : Old w5 ob := ⟨hx5.lt⟩; clear hr5 hb5 hx5)
      | (go_at_call 15; refine (HST.out _ HB5.out HR5.out).mono ?_; rintro e6 w6 ⟨rfl, v6, N6, zs, hr6, hn6, hy6, hk6, hat6⟩; have HO := Lib.hid (HP.out.own HB5.out (hk6.mono fun k _ q => q.imp id fun q => q.2) hr6); have HY := Lib.hid hy6; clear hr6 hy6 hk6 hat6 d0 d1 d2 d3 d4 d5))
    clear HST HNW HB5 HR5 HP HCK
    have HGN := Lib.hid (show gotN zs s = (x, true) by
      have hy : ysOf zs = [(s, x)] := HY.out
      rw [got_look HO.out.r.r, hy]
      simp [lookY])
    have hzl : zs.length ≤ 1 := by
      have hy : ysOf zs = [(s, x)] := HY.out
      have := ys_len zs
      rw [hy] at this
      simp at this
      omega
    have hzx : ∀ e ∈ zs, e.x.a.length ≤ 1073741824 ∧ e.x.w.length ≤ 1073741824 := fun e he => by
      have hy : ysOf zs = [(s, x)] := HY.out
      have hm : (e.n, e.x) ∈ ysOf zs := List.mem_map.2 ⟨e, he, rfl⟩
      rw [hy, List.mem_singleton] at hm
      have := (Prod.mk.inj hm).2
      rw [this]
      omega
    generalize wc.heap.size = rb at *
    generalize rb + 1 = A at *
    have HG := Lib.hid fun W (hr : RegAt W A N6 rb v6 zs) => get_any W A N6 rb v6 zs s hr (by omega) hzx
    rw [HGN.out] at HG
    unfold GetP at HG
    dsimp only at HG
    clear HGN hzx HY
    go_loopw [7] (fun i w' => ∃ k : Nat, k ≤ x.a.length ∧ i = .int .i64 k ∧ Hid (OwI w w' w.heap.size ob rb A N6 [.slice Aa x.a.length ca, .slice Aw x.w.length cw, .string (B x.g), .string (B x.x), .string (B x.p), .string (B x.s)] A3 A7 x.a.length x.w.length c3 c7 (.string (B x.g)) (.string (B x.x)) (.string (B x.p)) (.string (B x.s)) v6 zs)) (fun i _ => x.a.length - (intOf i).toNat)
    case atStart => exact ⟨0, by omega, rfl, HO⟩
    case round =>
      clear HO
      obtain ⟨k, hk, rfl, HO⟩ := hrel
      obtain ⟨⟨p0, p1, p2, p3, p4, p5⟩, -⟩ := box6 HO.out.b
      haveI : Old wr ob := ⟨HO.out.b.lt⟩
      have k0 : (0 : Int) ≤ (k : Int) := by omega
      by_cases hlt : k < x.a.length
      · have k1 : (k : Int) < (x.a.length : Int) := by omega
        obtain ⟨g, off, rfl, ⟨u, e0⟩, f0, hg, hap⟩ := HO.out.fst hlt
        haveI : Old wr g := ⟨hg⟩
        have HO2 := Lib.hid (HO.out.set hap (off + k) (.int .i64 0))
        clear hap
        go_wp2
        go_roundw
        case rel => exact ⟨k + 1, by omega, by go_num, HO2⟩
        case measure => simp [intOf]; omega
      · have k1 : ¬ (k : Int) < (x.a.length : Int) := by omega
        clear hlt
        go_wp2
        go_loopw [8] (fun i w' => ∃ k : Nat, k ≤ x.w.length ∧ i = .int .i64 k ∧ Hid (OwI w w' w.heap.size ob rb A N6 [.slice Aa x.a.length ca, .slice Aw x.w.length cw, .string (B x.g), .string (B x.x), .string (B x.p), .string (B x.s)] A3 A7 x.a.length x.w.length c3 c7 (.string (B x.g)) (.string (B x.x)) (.string (B x.p)) (.string (B x.s)) v6 zs)) (fun i _ => x.w.length - (intOf i).toNat)
        case atStart => exact ⟨0, by omega, rfl, HO⟩
        case round =>
          clear HO
          obtain ⟨k, hk, rfl, HO⟩ := hrel
          obtain ⟨⟨p0, p1, p2, p3, p4, p5⟩, -⟩ := box6 HO.out.b
          haveI : Old wr ob := ⟨HO.out.b.lt⟩
          have k0 : (0 : Int) ≤ (k : Int) := by omega
          by_cases hlt : k < x.w.length
          · have k1 : (k : Int) < (x.w.length : Int) := by omega
            obtain ⟨g, off, rfl, ⟨u, e0⟩, f0, hg, hap⟩ := HO.out.snd hlt
            haveI : Old wr g := ⟨hg⟩
            have HO2 := Lib.hid (HO.out.set hap (off + k) (.string (B [99, 104, 97, 110, 103, 101, 100])))
            clear hap
            go_wp2
            go_roundw
            case rel => exact ⟨k + 1, by omega, by go_num, HO2⟩
            case measure => simp [intOf]; omega
          · have k1 : ¬ (k : Int) < (x.w.length : Int) := by omega
            clear hlt
            go_wp2_with (first
              | (go_at_call 16; refine (HG.out _ HO.out.r).mono ?_; rintro e7 w7 ⟨va7, vw7, rfl, ha7, hw7, hb7⟩; obtain ⟨B7, b7, rfl, -⟩ := ha7.form0; obtain ⟨D7, d7, rfl, -⟩ := hw7.form0; have HA7 := Lib.hid ha7; have HW7 := Lib.hid hw7; have HB7 := Lib.hid hb7; have hx7 := HO.out.x.below hb7; obtain ⟨⟨q0, q1, q2, q3, q4, q5⟩, -⟩ := box6 hx7; haveI : Old w7 w.heap.size := ⟨hx7.lt⟩; clear ha7 hw7 hb7 hx7)
              | (go_at_call 10; refine (HSM.out (.slice B7 x.a.length b7) (.slice D7 x.w.length d7) _ ((HA7.out.below (below_alloc (Below.refl _ _) _)).sl (fun _ _ => rfl) rfl) ((HW7.out.below (below_alloc (Below.refl _ _) _)).sl (fun _ _ => rfl) rfl) (below_then HO.out.h (below_then HB7.out (below_alloc (Below.refl _ _) _)))).mono ?_; rintro e8 w8 ⟨rfl, hb8⟩; have HO8 := Lib.hid (HO.out.again HB7.out HA7.out HW7.out hb8); clear hb8 q0 q1 q2 q3 q4 q5))
            clear HA7 HW7 HB7 HO
            generalize w7.heap.size = ab at *
            go_loopw [11] (fun i w' => ∃ k : Nat, k ≤ x.w.length ∧ i = .int .i64 k ∧ Hid (OwI w w' w.heap.size ab rb A N6 [.slice Aa x.a.length ca, .slice Aw x.w.length cw, .string (B x.g), .string (B x.x), .string (B x.p), .string (B x.s)] B7 D7 x.a.length x.w.length b7 d7 (.string (B x.g)) (.string (B x.x)) (.string (B x.p)) (.string (B x.s)) v6 zs)) (fun i _ => x.w.length - (intOf i).toNat)
            case atStart => exact ⟨0, by omega, rfl, HO8⟩
            case round =>
              clear HO8
              obtain ⟨k, hk, rfl, HO⟩ := hrel
              obtain ⟨⟨p0, p1, p2, p3, p4, p5⟩, -⟩ := box6 HO.out.b
              haveI : Old wr ab := ⟨HO.out.b.lt⟩
              have k0 : (0 : Int) ≤ (k : Int) := by omega
              by_cases hlt : k < x.w.length
              · have k1 : (k : Int) < (x.w.length : Int) := by omega
                obtain ⟨g, off, rfl, ⟨u, e0⟩, f0, hg, hap⟩ := HO.out.snd hlt
                haveI : Old wr g := ⟨hg⟩
                have HO2 := Lib.hid (HO.out.set hap (off + k) (.string (B [99, 104, 97, 110, 103, 101, 100])))
                clear hap
                go_wp2
                go_roundw
                case rel => exact ⟨k + 1, by omega, by go_num, HO2⟩
                case measure => simp [intOf]; omega
              · have k1 : ¬ (k : Int) < (x.w.length : Int) := by omega
                clear hlt
                go_wp2
                go_loopw [12] (fun i w' => ∃ k : Nat, k ≤ x.a.length ∧ i = .int .i64 k ∧ Hid (OwI w w' w.heap.size ab rb A N6 [.slice Aa x.a.length ca, .slice Aw x.w.length cw, .string (B x.g), .string (B x.x), .string (B x.p), .string (B x.s)] B7 D7 x.a.length x.w.length b7 d7 (.string (B x.g)) (.string (B x.x)) (.string (B x.p)) (.string (B x.s)) v6 zs)) (fun i _ => x.a.length - (intOf i).toNat)
                case atStart => exact ⟨0, by omega, rfl, HO⟩
                case round =>
                  clear HO
                  obtain ⟨k, hk, rfl, HO⟩ := hrel
                  obtain ⟨⟨p0, p1, p2, p3, p4, p5⟩, -⟩ := box6 HO.out.b
                  haveI : Old wr ab := ⟨HO.out.b.lt⟩
                  have k0 : (0 : Int) ≤ (k : Int) := by omega
                  by_cases hlt : k < x.a.length
                  · have k1 : (k : Int) < (x.a.length : Int) := by omega
                    obtain ⟨g, off, rfl, ⟨u, e0⟩, f0, hg, hap⟩ := HO.out.fst hlt
                    haveI : Old wr g := ⟨hg⟩
                    have HO2 := Lib.hid (HO.out.set hap (off + k) (.int .i64 0))
                    clear hap
                    go_wp2
                    go_roundw
                    case rel => exact ⟨k + 1, by omega, by go_num, HO2⟩
                    case measure => simp [intOf]; omega
                  · have k1 : ¬ (k : Int) < (x.a.length : Int) := by omega
                    clear hlt
                    go_wp2_with (first
                      | (go_at_call 16; refine (HG.out _ HO.out.r).mono ?_; rintro e7 w7 ⟨va7, vw7, rfl, ha7, hw7, hb7⟩; obtain ⟨B7, b7, rfl, -⟩ := ha7.form0; obtain ⟨D7, d7, rfl, -⟩ := hw7.form0; have HA7 := Lib.hid ha7; have HW7 := Lib.hid hw7; have HB7 := Lib.hid hb7; have hx7 := HO.out.x.below hb7; obtain ⟨⟨q0, q1, q2, q3, q4, q5⟩, -⟩ := box6 hx7; haveI : Old w7 w.heap.size := ⟨hx7.lt⟩; clear ha7 hw7 hb7 hx7)
                      | (go_at_call 10; refine (HSM.out (.slice B7 x.a.length b7) (.slice D7 x.w.length d7) _ ((HA7.out.below (below_alloc (Below.refl _ _) _)).sl (fun _ _ => rfl) rfl) ((HW7.out.below (below_alloc (Below.refl _ _) _)).sl (fun _ _ => rfl) rfl) (below_then HO.out.h (below_then HB7.out (below_alloc (Below.refl _ _) _)))).mono ?_; rintro e8 w8 ⟨rfl, hb8⟩; have HO8 := Lib.hid (HO.out.again HB7.out HA7.out HW7.out hb8); clear hb8 q0 q1 q2 q3 q4 q5))
                    go_ret
                    exact ⟨rfl, HO8.out.h⟩
theorem walk {H : Type} (enc : TypeId × Value → H) (w : World) (base : Nat) {v0 v1 : Value} {d0 d1 : DataW H} {p0 p1 : List MemPlace}
    (h0 : DataW.Trod enc Tryz.prog w 0 (fun _ => true) true 9 v0 d0 p0) (k0 : Value.okWide Tryz.prog w .any base 9 v0)
    (h1 : DataW.Trod enc Tryz.prog w 0 (fun _ => true) true 26 v1 d1 p1) (k1 : Value.okWide Tryz.prog w .any base 26 v1) :
    Calls Tryz.prog 4 #[v0, v1] w fun e w' => e = .returned (.bool true) ∧ Below w.heap.size w w' := by
  obtain ⟨s, rfl, hs⟩ := open_text h0 k0
  obtain ⟨va, vw, x, rfl, ha, hw, la, lw⟩ := open_spec h1 k1
  by_cases hno : 100 < s.length ∨ lightB x = false ∨ spMay s = false ∨ goodB x = false
  · exact early enc w s va vw x ha hw la lw hno
  · refine main_ enc w s va vw x ha hw (by omega) ?_ ?_ ?_
    · cases h : lightB x <;> simp_all
    · cases h : spMay s <;> simp_all
    · cases h : goodB x <;> simp_all
end Go.Proofs.YtljinmfkogmmlaaGreat.specOwn
