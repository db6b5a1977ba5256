/-
  The walk of layer 16 (pattern): the set at a place, by the program. Conditions: texts of at most 2^30 bytes; the library's variable MaxLen holds some number. Printed by gen_bracket.py.
-/
import Derived.Test.YtfmecpnokefokaaGreatDoorPat10
set_option linter.unusedSimpArgs false
set_option linter.unusedVariables false
namespace Go.Proofs.YtfmecpnokefokaaGreatDoor.Pat
open Go.ChangeShapes Go.WideShapes Go.Deep Go.RowKit
set_option maxRecDepth 100000
theorem SetAt.new2 (W : World) (o : Obj) (t : TypeId) : SetAt ((W.alloc o).alloc (.cells #[.int .u64 0, .int .u64 0, .int .u64 0, .int .u64 0] t)) (W.heap.size + 1) (fun _ => false) := by
 have := SetAt.new (W.alloc o) t
 simpa using this
theorem below4 {w w' : World} (h : Below w.heap.size w w') (v0 v1 v2 v3 : Value) : Below w.heap.size w ((((w'.setCell ⟨w.heap.size, 0, none⟩ v0).setCell ⟨w.heap.size, 1, none⟩ v1).setCell ⟨w.heap.size, 2, none⟩ v2).setCell ⟨w.heap.size, 3, none⟩ v3) := by
 have e : w.heap.size ≤ w.heap.size := Nat.le_refl _
 exact below_setCell (below_setCell (below_setCell (below_setCell h e _) e _) e _) e _
set_option maxHeartbeats 6400000 in
theorem bracket_any (p : List UInt8) (n : Nat) (w : World) (hm : MaxL w) (hp : p.length ≤ 1073741824) (hn : n < p.length) :
  Calls Tryz.prog 196 #[.string (B p), .int .i64 n] w (BrP p n w) := by
 have HM := Lib.hid hm
 clear hm
 have i00 : (0 : Int) ≤ (n : Int) + 1 := by omega
 by_cases h33 : ∃ h : n + 1 < p.length, p[n + 1] = 33
 ·obtain ⟨h1, h33⟩ := h33
  have hg : p[n + 1]? = some 33 := by rw [List.getElem?_eq_getElem h1, h33]
  have HBR := Lib.hid fun x (h : setR p (n + 2) (n + 2) (fun _ => false) = some x) => brAt_not (g := x.1) (e := x.2) hg h
  have HBN := Lib.hid fun h => brAt_not0 hg h
  have d1 : (n : Int) + 1 < (p.length : Int) := by omega
  have d2 := is_b (n := 33) rfl h33
  clear h33 hg
  obtain ⟨q, hq⟩ : ∃ q, q = n + 2 := ⟨_, rfl⟩
  rw [← hq] at HBR HBN
  have HQ : Hid ((q : Int) = (n : Int) + 1 + 1) := by show _ = _; omega
  have HQL : Hid (q ≤ p.length) := by show _ ≤ _; omega
  clear hq
  go_enter Tryz.func196, Tryz.ntmps196
  go_wp2
  go_loopw [1] (fun i w' => ∃ (k : Nat) (f : UInt8 → Bool), q ≤ k ∧ k ≤ p.length ∧ i = .int .i64 k ∧ Hid (setR p q q (fun _ => false) = setR p q k f) ∧ Hid (SetAt w' (w.heap.size + 1) f) ∧ Hid (SetAt w' w.heap.size (fun _ => false)) ∧ Hid (Below w.heap.size w w')) (fun i _ => p.length - (intOf i).toNat)
  case atStart => exact ⟨q, fun _ => false, by omega, by have := HQL.out; omega, by rw [HQ.out], rfl, SetAt.new2 _ _ _, (SetAt.new _ _).below (below_alloc (Below.refl _ _) _), by show Below _ _ _; (repeat (first | with_reducible exact Below.refl _ _ | with_reducible assumption | with_reducible refine below_alloc ?_ _ | with_reducible refine below_grow ?_ _ | with_reducible refine below_drewN ?_ _ | with_reducible refine below_drew ?_ | with_reducible refine below_setCell ?_ (by first | (dsimp only; omega) | (simp; done) | (simp; omega)) _))⟩
  case round =>
   obtain ⟨k, f, hqk, hk, rfl, HR, HXB, HRB, HB1⟩ := hrel
   by_cases hlt : k < p.length
   ·have i0 : (0 : Int) ≤ (k : Int) := by omega
    have i1 : (k : Int) < (p.length : Int) := by omega
    by_cases hend : p[k] = 93 ∧ ¬ k = q
    ·obtain ⟨h93, hgt⟩ := hend
     have e1 := is_nb (n := 93) rfl h93
     have e2 := beq_eq_false_iff_ne.2 (show ¬ (k : Int) = (n : Int) + 1 + 1 by have := HQ.out; omega)
     have e3 := no (show ¬ p.length ≤ k by omega)
     have HE := Lib.hid (setR_end (p := p) (first := q) (f := f) (show p[k]? = some 93 by rw [List.getElem?_eq_getElem hlt, h93]) (by omega))
     clear h93 hgt
     go_wp2
     obtain ⟨wo, rfl⟩ : ∃ wo : World, wo = wr := ⟨_, rfl⟩
     go_loopw [53] (fun i w' => ∃ j : Nat, j ≤ 4 ∧ i = .int .i64 j ∧ Hid (MixAt w' (w.heap.size + 1) f (fun c => !f c) j) ∧ Hid (SetAt w' w.heap.size (fun _ => false)) ∧ Hid (Below w.heap.size w w')) (fun i _ => 4 - (intOf i).toNat)
     case atStart => exact ⟨0, by omega, rfl, HXB.out.mix, HRB.out, HB1.out⟩
     case round =>
      obtain ⟨j, hj, rfl, HXM, HRM, HBM⟩ := hrel
      by_cases hjl : j < 4
      ·have c0 := HXM.out.c j hjl
       rw [if_neg (Nat.lt_irrefl j)] at c0
       have cf := HXM.out.fr
       have cx := xorbit f j
       haveI : Old wr (w.heap.size + 1) := ⟨HXM.out.lt⟩
       have HX3 := Lib.hid (HXM.out.step hjl)
       have hks := Keeps.setCell (F := fun k => k = w.heap.size + 1) wr (a := ⟨w.heap.size + 1, j, none⟩) rfl (.int .u64 (wordOf (fun c => !f c) j : Nat))
       have HR3 := Lib.hid (HRM.out.keeps hks (by omega))
       have HB3 := Lib.hid (below_keeps HBM.out hks (fun k hk => by omega))
       clear hks
       have j0 : (0 : Int) ≤ (j : Int) := by omega
       have j1 : (j : Int) < 4 := by omega
       go_wp2
       go_roundw
       case rel => exact ⟨j + 1, by omega, by go_num, HX3.out, HR3.out, HB3.out⟩
       case measure => simp [intOf]; omega
      ·have hj4 : j = 4 := by omega
       have hxm := HXM.out
       rw [hj4] at hxm
       have HXD := Lib.hid hxm.done
       have HJ4 := Lib.hid hj4
       have dj := no (show ¬ (j : Int) < 4 by omega)
       clear hj4 hxm hjl
       obtain ⟨x0, x1, x2, x3⟩ := HXD.out.loads
       have xf := HXD.out.fr
       obtain ⟨r0, r1, r2, r3⟩ := HRM.out.loads
       rw [word_zero] at r0 r1 r2 r3
       have rf := HRM.out.fr
       haveI : Old wr w.heap.size := ⟨HRM.out.lt⟩
       haveI : Old wr (w.heap.size + 1) := ⟨HXD.out.lt⟩
       go_wp2
       exact bodyPost_ret (v := .tuple #[.agg #[.int .u64 (wordOf (fun c => !f c) 0 : Nat), .int .u64 (wordOf (fun c => !f c) 1 : Nat), .int .u64 (wordOf (fun c => !f c) 2 : Nat), .int .u64 (wordOf (fun c => !f c) 3 : Nat)], .int .i64 ((k : Int) + 1)]) (by simp [results, Tryz.results196, go_sem, r0, r1, r2, r3]) rfl (BrP.some_ (g := fun c => !f c) (HBR.out _ (HR.out.trans HE.out)) (by omega) (below4 HBM.out _ _ _ _))
    ·have HNS : Hid (¬ (p[k]? = some 93 ∧ k ≠ q)) := fun h => hend ⟨by have := h.1; rw [List.getElem?_eq_getElem hlt] at this; simpa using this, by have := h.2; omega⟩
     have hor : ¬ p[k] = 93 ∨ (p[k] = 93 ∧ k = q) := by
      by_cases h : p[k] = 93
      ·exact .inr ⟨h, Classical.byContradiction fun h2 => hend ⟨h, h2⟩⟩
      ·exact .inl h
     have HMB := Lib.hid fun w' hs hm hb => mem_any p k (w.heap.size + 1) f w' hs hm hb hp hlt
     unfold MemP at HMB
     clear hend
     cases hm : memAt p k with
     | none =>
      have hme : memEnd p k = 0 := by unfold memEnd; rw [hm]
      have hms : memSet p k f = f := by unfold memSet; rw [hm]
      rw [hme, hms] at HMB
      have HE := Lib.hid (setR_none (f := f) hlt HNS.out hm)
      clear hm hme hms
      rcases hor with h | ⟨h, h2⟩
      all_goals
       try have e1 := not_nb (n := 93) rfl h
       try have e1 := is_nb (n := 93) rfl h
       try have e2 := beq_iff_eq.2 (show (k : Int) = (n : Int) + 1 + 1 by have := HQ.out; omega)
       clear h
       try clear h2
       go_wp2_with (go_at_call 197; refine (HMB.out _ HXB.out (HM.out.below HB1.out) (by omega)).mono ?_; rintro e w2 ⟨rfl, hs2, hk2⟩; have HX2 := Lib.hid hs2; have HRB2 := Lib.hid (HRB.out.keeps hk2 (by omega)); have HB2 := Lib.hid (below_keeps HB1.out hk2 (fun k hk => by omega)); obtain ⟨r0, r1, r2, r3⟩ := HRB2.out.loads; rw [word_zero] at r0 r1 r2 r3; have rf := HRB2.out.fr; haveI : Old w2 w.heap.size := ⟨HRB2.out.lt⟩; clear hs2 hk2)
       exact bodyPost_ret (v := .tuple #[.agg #[.int .u64 0, .int .u64 0, .int .u64 0, .int .u64 0], .int .i64 0]) (by simp [results, Tryz.results196, go_sem, r0, r1, r2, r3]) rfl (BrP.none_ (HBN.out (HR.out.trans HE.out)) (below4 HB2.out _ _ _ _))
     | some x =>
      obtain ⟨g, e⟩ := x
      have hme : memEnd p k = e := by unfold memEnd; rw [hm]
      have hms : memSet p k f = fun c => f c || g c := by unfold memSet; rw [hm]
      rw [hme, hms] at HMB
      have HE := Lib.hid (setR_some (f := f) hlt HNS.out hm)
      have hee := memAt_end hm
      have d0 := beq_eq_false_iff_ne.2 (show ¬ (e : Int) = 0 by omega)
      clear hm hme hms
      rcases hor with h | ⟨h, h2⟩
      all_goals
       try have e1 := not_nb (n := 93) rfl h
       try have e1 := is_nb (n := 93) rfl h
       try have e2 := beq_iff_eq.2 (show (k : Int) = (n : Int) + 1 + 1 by have := HQ.out; omega)
       clear h
       try clear h2
       go_wp2_with (go_at_call 197; refine (HMB.out _ HXB.out (HM.out.below HB1.out) (by omega)).mono ?_; rintro e w2 ⟨rfl, hs2, hk2⟩; have HX2 := Lib.hid hs2; have HRB2 := Lib.hid (HRB.out.keeps hk2 (by omega)); have HB2 := Lib.hid (below_keeps HB1.out hk2 (fun k hk => by omega)); obtain ⟨r0, r1, r2, r3⟩ := HRB2.out.loads; rw [word_zero] at r0 r1 r2 r3; have rf := HRB2.out.fr; haveI : Old w2 w.heap.size := ⟨HRB2.out.lt⟩; clear hs2 hk2)
       go_roundw
       case rel => exact ⟨e, _, by omega, by omega, rfl, HR.out.trans HE.out, HX2.out, HRB2.out, HB2.out⟩
       case measure => simp [intOf]; omega
   ·have HE := Lib.hid (setR_over (p := p) (first := q) (f := f) (show p.length ≤ k by omega))
    have d1 := no hlt
    have d2 : p.length ≤ k := by omega
    clear hlt
    obtain ⟨r0, r1, r2, r3⟩ := HRB.out.loads
    rw [word_zero] at r0 r1 r2 r3
    have rf := HRB.out.fr
    haveI : Old wr w.heap.size := ⟨HRB.out.lt⟩
    go_wp2
    exact bodyPost_ret (v := .tuple #[.agg #[.int .u64 0, .int .u64 0, .int .u64 0, .int .u64 0], .int .i64 0]) (by simp [results, Tryz.results196, go_sem, r0, r1, r2, r3]) rfl (BrP.none_ (HBN.out (HR.out.trans HE.out)) (below4 HB1.out _ _ _ _))
 ·have hg : ¬ p[n + 1]? = some 33 := fun h => by
   obtain ⟨h1, h2⟩ := List.getElem?_eq_some_iff.1 h
   exact h33 ⟨h1, h2⟩
  have HBR := Lib.hid fun (x : (UInt8 → Bool) × Nat) (h : setR p (n + 1) (n + 1) (fun _ => false) = some x) => (brAt_plain hg).trans h
  have HBN := Lib.hid fun (h : setR p (n + 1) (n + 1) (fun _ => false) = none) => (brAt_plain hg).trans h
  have hor : ¬ n + 1 < p.length ∨ ∃ h : n + 1 < p.length, ¬ p[n + 1] = 33 := by
   by_cases h1 : n + 1 < p.length
   ·exact .inr ⟨h1, fun h => h33 ⟨h1, h⟩⟩
   ·exact .inl h1
  clear hg h33
  obtain ⟨q, hq⟩ : ∃ q, q = n + 1 := ⟨_, rfl⟩
  rw [← hq] at HBR HBN
  have HQ : Hid ((q : Int) = (n : Int) + 1) := by show _ = _; omega
  have HQL : Hid (q ≤ p.length) := by show _ ≤ _; omega
  clear hq
  rcases hor with h1 | ⟨h1, h33⟩
  all_goals
   try have d1 := no (show ¬ (n : Int) + 1 < (p.length : Int) by omega)
   try have d1 : (n : Int) + 1 < (p.length : Int) := by omega
   try have d2 := not_b (n := 33) rfl h33
   try clear h33
   go_enter Tryz.func196, Tryz.ntmps196
   go_wp2
   go_loopw [1] (fun i w' => ∃ (k : Nat) (f : UInt8 → Bool), q ≤ k ∧ k ≤ p.length ∧ i = .int .i64 k ∧ Hid (setR p q q (fun _ => false) = setR p q k f) ∧ Hid (SetAt w' (w.heap.size + 1) f) ∧ Hid (SetAt w' w.heap.size (fun _ => false)) ∧ Hid (Below w.heap.size w w')) (fun i _ => p.length - (intOf i).toNat)
   case atStart => exact ⟨q, fun _ => false, by omega, by have := HQL.out; omega, by rw [HQ.out], rfl, SetAt.new2 _ _ _, (SetAt.new _ _).below (below_alloc (Below.refl _ _) _), by show Below _ _ _; (repeat (first | with_reducible exact Below.refl _ _ | with_reducible assumption | with_reducible refine below_alloc ?_ _ | with_reducible refine below_grow ?_ _ | with_reducible refine below_drewN ?_ _ | with_reducible refine below_drew ?_ | with_reducible refine below_setCell ?_ (by first | (dsimp only; omega) | (simp; done) | (simp; omega)) _))⟩
   case round =>
    obtain ⟨k, f, hqk, hk, rfl, HR, HXB, HRB, HB1⟩ := hrel
    by_cases hlt : k < p.length
    ·have i0 : (0 : Int) ≤ (k : Int) := by omega
     have i1 : (k : Int) < (p.length : Int) := by omega
     by_cases hend : p[k] = 93 ∧ ¬ k = q
     ·obtain ⟨h93, hgt⟩ := hend
      have e1 := is_nb (n := 93) rfl h93
      have e2 := beq_eq_false_iff_ne.2 (show ¬ (k : Int) = (n : Int) + 1 by have := HQ.out; omega)
      have e3 := no (show ¬ p.length ≤ k by omega)
      have HE := Lib.hid (setR_end (p := p) (first := q) (f := f) (show p[k]? = some 93 by rw [List.getElem?_eq_getElem hlt, h93]) (by omega))
      clear h93 hgt
      obtain ⟨x0, x1, x2, x3⟩ := HXB.out.loads
      have xf := HXB.out.fr
      obtain ⟨r0, r1, r2, r3⟩ := HRB.out.loads
      rw [word_zero] at r0 r1 r2 r3
      have rf := HRB.out.fr
      haveI : Old wr w.heap.size := ⟨HRB.out.lt⟩
      haveI : Old wr (w.heap.size + 1) := ⟨HXB.out.lt⟩
      go_wp2
      exact bodyPost_ret (v := .tuple #[.agg #[.int .u64 (wordOf (f) 0 : Nat), .int .u64 (wordOf (f) 1 : Nat), .int .u64 (wordOf (f) 2 : Nat), .int .u64 (wordOf (f) 3 : Nat)], .int .i64 ((k : Int) + 1)]) (by simp [results, Tryz.results196, go_sem, r0, r1, r2, r3]) rfl (BrP.some_ (g := f) (HBR.out _ (HR.out.trans HE.out)) (by omega) (below4 HB1.out _ _ _ _))
     ·have HNS : Hid (¬ (p[k]? = some 93 ∧ k ≠ q)) := fun h => hend ⟨by have := h.1; rw [List.getElem?_eq_getElem hlt] at this; simpa using this, by have := h.2; omega⟩
      have hor : ¬ p[k] = 93 ∨ (p[k] = 93 ∧ k = q) := by
       by_cases h : p[k] = 93
       ·exact .inr ⟨h, Classical.byContradiction fun h2 => hend ⟨h, h2⟩⟩
       ·exact .inl h
      have HMB := Lib.hid fun w' hs hm hb => mem_any p k (w.heap.size + 1) f w' hs hm hb hp hlt
      unfold MemP at HMB
      clear hend
      cases hm : memAt p k with
      | none =>
       have hme : memEnd p k = 0 := by unfold memEnd; rw [hm]
       have hms : memSet p k f = f := by unfold memSet; rw [hm]
       rw [hme, hms] at HMB
       have HE := Lib.hid (setR_none (f := f) hlt HNS.out hm)
       clear hm hme hms
       rcases hor with h | ⟨h, h2⟩
       all_goals
        try have e1 := not_nb (n := 93) rfl h
        try have e1 := is_nb (n := 93) rfl h
        try have e2 := beq_iff_eq.2 (show (k : Int) = (n : Int) + 1 by have := HQ.out; omega)
        clear h
        try clear h2
        go_wp2_with (go_at_call 197; refine (HMB.out _ HXB.out (HM.out.below HB1.out) (by omega)).mono ?_; rintro e w2 ⟨rfl, hs2, hk2⟩; have HX2 := Lib.hid hs2; have HRB2 := Lib.hid (HRB.out.keeps hk2 (by omega)); have HB2 := Lib.hid (below_keeps HB1.out hk2 (fun k hk => by omega)); obtain ⟨r0, r1, r2, r3⟩ := HRB2.out.loads; rw [word_zero] at r0 r1 r2 r3; have rf := HRB2.out.fr; haveI : Old w2 w.heap.size := ⟨HRB2.out.lt⟩; clear hs2 hk2)
        exact bodyPost_ret (v := .tuple #[.agg #[.int .u64 0, .int .u64 0, .int .u64 0, .int .u64 0], .int .i64 0]) (by simp [results, Tryz.results196, go_sem, r0, r1, r2, r3]) rfl (BrP.none_ (HBN.out (HR.out.trans HE.out)) (below4 HB2.out _ _ _ _))
      | some x =>
       obtain ⟨g, e⟩ := x
       have hme : memEnd p k = e := by unfold memEnd; rw [hm]
       have hms : memSet p k f = fun c => f c || g c := by unfold memSet; rw [hm]
       rw [hme, hms] at HMB
       have HE := Lib.hid (setR_some (f := f) hlt HNS.out hm)
       have hee := memAt_end hm
       have d0 := beq_eq_false_iff_ne.2 (show ¬ (e : Int) = 0 by omega)
       clear hm hme hms
       rcases hor with h | ⟨h, h2⟩
       all_goals
        try have e1 := not_nb (n := 93) rfl h
        try have e1 := is_nb (n := 93) rfl h
        try have e2 := beq_iff_eq.2 (show (k : Int) = (n : Int) + 1 by have := HQ.out; omega)
        clear h
        try clear h2
        go_wp2_with (go_at_call 197; refine (HMB.out _ HXB.out (HM.out.below HB1.out) (by omega)).mono ?_; rintro e w2 ⟨rfl, hs2, hk2⟩; have HX2 := Lib.hid hs2; have HRB2 := Lib.hid (HRB.out.keeps hk2 (by omega)); have HB2 := Lib.hid (below_keeps HB1.out hk2 (fun k hk => by omega)); obtain ⟨r0, r1, r2, r3⟩ := HRB2.out.loads; rw [word_zero] at r0 r1 r2 r3; have rf := HRB2.out.fr; haveI : Old w2 w.heap.size := ⟨HRB2.out.lt⟩; clear hs2 hk2)
        go_roundw
        case rel => exact ⟨e, _, by omega, by omega, rfl, HR.out.trans HE.out, HX2.out, HRB2.out, HB2.out⟩
        case measure => simp [intOf]; omega
    ·have HE := Lib.hid (setR_over (p := p) (first := q) (f := f) (show p.length ≤ k by omega))
     have d1 := no hlt
     have d2 : p.length ≤ k := by omega
     clear hlt
     obtain ⟨r0, r1, r2, r3⟩ := HRB.out.loads
     rw [word_zero] at r0 r1 r2 r3
     have rf := HRB.out.fr
     haveI : Old wr w.heap.size := ⟨HRB.out.lt⟩
     go_wp2
     exact bodyPost_ret (v := .tuple #[.agg #[.int .u64 0, .int .u64 0, .int .u64 0, .int .u64 0], .int .i64 0]) (by simp [results, Tryz.results196, go_sem, r0, r1, r2, r3]) rfl (BrP.none_ (HBN.out (HR.out.trans HE.out)) (below4 HB1.out _ _ _ _))
end Go.Proofs.YtfmecpnokefokaaGreatDoor.Pat
