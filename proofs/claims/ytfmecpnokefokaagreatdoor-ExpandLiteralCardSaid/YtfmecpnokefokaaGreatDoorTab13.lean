/-
  The walk of layer 19's reference: Set, of a rising row. Conditions: fewer than 10000 entries, a name of at most 2^30 bytes, a value of at most 65536.
-/
import Derived.Test.YtfmecpnokefokaaGreatDoorTab12
set_option linter.unusedSimpArgs false
set_option linter.unusedVariables false
namespace Go.Proofs.YtfmecpnokefokaaGreatDoor.Tab
open Go.ChangeShapes Go.WideShapes Go.Deep Go.RowKit
set_option maxRecDepth 100000
theorem place_name {xs : List Ent} (h : Rises xs) (s : List UInt8) {k : Nat} {x : Ent} (hx : xs[k]? = some x) : (k < place xs s → Op.bytesLess x.name s = true ∧ (x.name == s) = false) ∧ (place xs s ≤ k → Op.bytesLess x.name s = false) ∧ (place xs s < k → (x.name == s) = false) ∧ (k = place xs s → (x.name == s) = there xs s) := by
 obtain ⟨h1, rfl⟩ := List.getElem?_eq_some_iff.1 hx
 have hi := place_iff h s h1
 refine ⟨fun hk => ?_, fun hk => ?_, fun hk => ?_, fun hk => ?_⟩
 ·have := hi.2 hk
  refine ⟨by rw [less_cmp]; simpa using this, ?_⟩
  rw [beq_eq_false_iff_ne]
  intro e
  rw [e, cmp_self] at this
  omega
 ·rw [less_cmp, decide_eq_false_iff_not]
  intro q
  have := hi.1 q
  omega
 ·rw [beq_eq_false_iff_ne]
  intro e
  have h3 : Lib.compareBytes (xs[place xs s]'(by omega)).name (xs[k]).name < 0 := List.pairwise_iff_getElem.1 h _ _ _ _ hk
  rw [e] at h3
  have := (place_iff h s (t := place xs s) (by omega)).1 h3
  omega
 ·unfold there
  rw [← hk, hx, Bool.eq_iff_iff]
  simp
def SetR (ys : List Ent) (w : World) (e : Ending) (w' : World) : Prop := ∃ v, e = .returned (.tuple #[v, .int .i64 0]) ∧ Own w' w.heap.size 2 v ys.length (ys.flatMap Ent.cells) ∧ Below w.heap.size w w'
theorem refSet_bad (kind : Int) (u : Value) (s v : List UInt8) (w : World) (hm : Cls.mayB kind s = false) (hs : s.length ≤ 1073741824) :
  Calls Tryz.prog 26 #[.int .i64 kind, u, .string (B s), .string (B v)] w fun e w' => e = .returned (.tuple #[u, .int .i64 5]) ∧ w = w' := by
 have HMY := Lib.hid fun w => Cls.refMay_any kind s w hs
 rw [hm] at HMY
 clear hm
 go_enter Tryz.func26, Tryz.ntmps26
 go_wp2_with (go_at_call 48; refine (HMY.out _).mono ?_; rintro e w' ⟨rfl, rfl⟩)
 go_ret2
 exact ⟨rfl, rfl⟩
set_option maxHeartbeats 3200000 in
theorem refSet_ok (kind : Int) (xs : List Ent) (u : Value) (s v : List UInt8) (w : World) (hu : Sl w Ent.cells 2 u xs) (hr : Rises xs) (hx : xs.length < 10000) (hm : Cls.mayB kind s = true) (hs : s.length ≤ 1073741824) (hv : v.length ≤ 65536) :
  Calls Tryz.prog 26 #[.int .i64 kind, u, .string (B s), .string (B v)] w (SetR (setL xs s v) w) := by
 obtain ⟨i0, hi0, hz00, hz01, hz02⟩ := info_parts info_ent
 have HMY := Lib.hid fun w => Cls.refMay_any kind s w hs
 rw [hm] at HMY
 have HGE := Lib.hid (refGet_any xs u s w hu (by omega))
 obtain ⟨A, c, rfl, hc1, hc2, hn, hA⟩ := hu
 have HA := Lib.hid hA
 have HPN := Lib.hid fun (k : Nat) (x : Ent) hx => place_name (k := k) (x := x) hr s hx
 have HE := Lib.hid (setK_end xs s v)
 have HPL := Lib.hid (place_le xs s)
 have d1 := no (show ¬ (65536 : Int) < (v.length : Int) by omega)
 have d2 := no (show ¬ (10000 : Int) ≤ (xs.length : Int) by omega)
 clear hA hn hm hr
 obtain ⟨t, n, hg, hn⟩ : ∃ t n, Hid (getP (getE xs s) = .tuple #[.string (B t), .int .i64 n]) ∧ (n = 0 ∨ n = 1) := by
  cases getE xs s with
  | none => exact ⟨[], 0, rfl, .inl rfl⟩
  | some e => exact ⟨e.val, 1, rfl, .inr rfl⟩
 rw [hg.out] at HGE
 clear hg
 rcases hn with rfl | rfl
 all_goals
  go_enter Tryz.func26, Tryz.ntmps26
  go_wp2_with (first | (go_at_call 48; refine (HMY.out _).mono ?_; rintro e w' ⟨rfl, rfl⟩) | (go_at_call 21; refine (HGE.out).mono ?_; rintro e w' ⟨rfl, rfl⟩))
  go_loopw [12, 13, 14] (fun o d i w' => ∃ (v1 : Value) (k : Nat), v1 = o ∧ k ≤ xs.length ∧ d = .bool (decide (place xs s < k)) ∧ i = .int .i64 k ∧ Hid (Own w' w.heap.size 2 v1 (setK xs s v k).length ((setK xs s v k).flatMap Ent.cells)) ∧ Below w.heap.size w w') (fun _ _ i _ => xs.length - (intOf i).toNat)
  case atStart => exact ⟨_, 0, rfl, by omega, by simp, rfl, by show Own _ _ _ _ _ _; unfold setK; rw [if_pos (by omega), List.take_zero]; exact Own.nil _ _ _, Below.refl _ _⟩
  case round =>
   obtain ⟨v1, k, rfl, hk, rfl, rfl, HO, hbl⟩ := hrel
   have hbs := hbl.size
   by_cases hlt : k < xs.length
   ·obtain ⟨b, off, rfl, hb, hc⟩ := HA.out (by omega)
    obtain ⟨x, hxm⟩ := get_some hlt
    have e0 := (hbl.cell (p := ⟨b, off + k * 2, none⟩) hb).trans (by have := hc k _ hxm 0 _ rfl; simpa using this)
    have e1 := (hbl.cell (p := ⟨b, off + k * 2 + 1, none⟩) hb).trans (hc k _ hxm 1 _ rfl)
    haveI : Old wr b := ⟨by omega⟩
    have k0 : (0 : Int) ≤ (k : Int) := by omega
    have k1 : (k : Int) < (xs.length : Int) := by omega
    have hle := setK_le xs s v k hk
    obtain ⟨p1, p2, p3, p4⟩ := HPN.out k x hxm
    rcases Nat.lt_trichotomy k (place xs s) with h1 | h1 | h1
    ·obtain ⟨q1, q2⟩ := p1 h1
     have q3 : (x.name != s) = true := by rw [bne, q2]; rfl
     have q4 := no (show ¬ place xs s < k by omega)
     have q5 := no (show ¬ place xs s < k + 1 by omega)
     have HS := Lib.hid (setK_lo (v := v) hxm h1)
     clear p1 p2 p3 p4 hc hxm
     rw [q4]
     go_wp2_with ((at_builtin; refine wpList_append_src _ rfl (.tmp 68) (.tmp 73) _ rfl w.heap.size 44 i0 _ 2 32 Tryz.underlying22 hi0 hz00 hz01 hz02 rfl (by decide) _ (setK xs s v k).length ((setK xs s v k).flatMap Ent.cells) rfl (HO.out.below (by (repeat (first | exact Below.refl _ _ | assumption | with_reducible refine below_alloc ?_ _ | with_reducible refine below_grow ?_ _ | with_reducible refine below_drewN ?_ _ | with_reducible refine below_drew ?_ | with_reducible refine below_setCell ?_ (by first | (dsimp only; omega) | (simp; done) | (simp; omega)) _)))) _ 1 (Ent.cells x) rfl rfl (Src.one _ _ _ _) (by simp [Ent.cells, Value.oneCell']) (by unfold maxLen; omega) (by omega) (by first | (simp; done) | omega | (simp; omega)) ?_; intro v2 w2 hown2 hg2 hat2 hty2; have HTY2 := Lib.hid hty2; clear hty2); have HO2 := Lib.hid hown2; have HB2 := Lib.hid (below_keeps (below_then hbl (below_alloc (Below.refl _ _) _)) hg2 (fun k hk => hk.2)); clear hown2 hg2 hat2)
     go_roundw
     case rel => exact ⟨v2, k + 1, rfl, by omega, by rw [q5], by go_num, by
      show Own _ _ _ _ _ _
      rw [HS.out]
      simpa [List.flatMap_append] using HO2.out, HB2.out⟩
     case measure => simp [intOf]; omega
    ·have q1 := p2 (by omega)
     have q4 := no (show ¬ place xs s < k by omega)
     have q5 := yes (show place xs s < k + 1 by omega)
     have HS := Lib.hid (setK_at (s := s) (v := v) hxm h1)
     have q2 := p4 h1
     clear p1 p2 p3 p4 hc hxm h1
     rw [q4]
     cases ht : there xs s with
     | true =>
      rw [ht] at q2
      have q3 : (x.name != s) = false := by rw [bne, q2]; rfl
      rw [ht, if_pos rfl] at HS
      clear ht
      go_wp2_with ((at_builtin; refine wpList_append_src _ rfl (.tmp 55) (.tmp 59) _ rfl w.heap.size 44 i0 _ 2 32 Tryz.underlying22 hi0 hz00 hz01 hz02 rfl (by decide) _ (setK xs s v k).length ((setK xs s v k).flatMap Ent.cells) rfl (HO.out.below (by (repeat (first | exact Below.refl _ _ | assumption | with_reducible refine below_alloc ?_ _ | with_reducible refine below_grow ?_ _ | with_reducible refine below_drewN ?_ _ | with_reducible refine below_drew ?_ | with_reducible refine below_setCell ?_ (by first | (dsimp only; omega) | (simp; done) | (simp; omega)) _)))) _ 1 (Ent.cells ⟨s, v⟩) rfl rfl (Src.one _ _ _ _) (by simp [Ent.cells, Value.oneCell']) (by unfold maxLen; omega) (by omega) (by first | (simp; done) | omega | (simp; omega)) ?_; intro v2 w2 hown2 hg2 hat2 hty2; have HTY2 := Lib.hid hty2; clear hty2); have HO2 := Lib.hid hown2; have HB2 := Lib.hid (below_keeps (below_then hbl (below_alloc (Below.refl _ _) _)) hg2 (fun k hk => hk.2)); have e0 := (HB2.out.cell (p := ⟨b, off + k * 2, none⟩) hb).trans ((hbl.cell (p := ⟨b, off + k * 2, none⟩) hb).symm.trans e0); haveI : Old w2 b := ⟨Nat.lt_of_lt_of_le hb HB2.out.size⟩; clear hown2 hg2 hat2)
      go_roundw
      case rel => exact ⟨v2, k + 1, rfl, by omega, by rw [q5], by go_num, by
       show Own _ _ _ _ _ _
       rw [HS.out]
       simpa [List.flatMap_append] using HO2.out, HB2.out⟩
      case measure => simp [intOf]; omega
     | false =>
      rw [ht] at q2
      have q3 : (x.name != s) = true := by rw [bne, q2]; rfl
      rw [ht, if_neg (by simp)] at HS
      clear ht
      go_wp2_with (first
       | ((at_builtin; refine wpList_append_src _ rfl (.tmp 55) (.tmp 59) _ rfl w.heap.size 44 i0 _ 2 32 Tryz.underlying22 hi0 hz00 hz01 hz02 rfl (by decide) _ (setK xs s v k).length ((setK xs s v k).flatMap Ent.cells) rfl (HO.out.below (by (repeat (first | exact Below.refl _ _ | assumption | with_reducible refine below_alloc ?_ _ | with_reducible refine below_grow ?_ _ | with_reducible refine below_drewN ?_ _ | with_reducible refine below_drew ?_ | with_reducible refine below_setCell ?_ (by first | (dsimp only; omega) | (simp; done) | (simp; omega)) _)))) _ 1 (Ent.cells ⟨s, v⟩) rfl rfl (Src.one _ _ _ _) (by simp [Ent.cells, Value.oneCell']) (by unfold maxLen; omega) (by omega) (by first | (simp; done) | omega | (simp; omega)) ?_; intro v2 w2 hown2 hg2 hat2 hty2; have HTY2 := Lib.hid hty2; clear hty2); have HO2 := Lib.hid hown2; have HB2 := Lib.hid (below_keeps (below_then hbl (below_alloc (Below.refl _ _) _)) hg2 (fun k hk => hk.2)); have e0 := (HB2.out.cell (p := ⟨b, off + k * 2, none⟩) hb).trans ((hbl.cell (p := ⟨b, off + k * 2, none⟩) hb).symm.trans e0); have e1 := (HB2.out.cell (p := ⟨b, off + k * 2 + 1, none⟩) hb).trans ((hbl.cell (p := ⟨b, off + k * 2 + 1, none⟩) hb).symm.trans e1); have hbs2 := HB2.out.size; haveI : Old w2 b := ⟨Nat.lt_of_lt_of_le hb HB2.out.size⟩; clear hown2 hg2 hat2)
       | ((at_builtin; refine wpList_append_src _ rfl (.tmp 68) (.tmp 73) _ rfl w.heap.size 44 i0 _ 2 32 Tryz.underlying22 hi0 hz00 hz01 hz02 rfl (by decide) _ ((setK xs s v k).length + 1) ((setK xs s v k).flatMap Ent.cells ++ Ent.cells ⟨s, v⟩) rfl (HO2.out.below (by (repeat (first | exact Below.refl _ _ | assumption | with_reducible refine below_alloc ?_ _ | with_reducible refine below_grow ?_ _ | with_reducible refine below_drewN ?_ _ | with_reducible refine below_drew ?_ | with_reducible refine below_setCell ?_ (by first | (dsimp only; omega) | (simp; done) | (simp; omega)) _)))) _ 1 (Ent.cells x) rfl rfl (Src.one _ _ _ _) (by simp [Ent.cells, Value.oneCell']) (by unfold maxLen; omega) (by omega) (by first | (simp; done) | omega | (simp; omega)) ?_; intro v3 w3 hown3 hg3 hat3 hty3; have HTY3 := Lib.hid hty3; clear hty3); have HO3 := Lib.hid hown3; have HB3 := Lib.hid (below_keeps (below_then HB2.out (below_alloc (Below.refl _ _) _)) hg3 (fun k hk => hk.2)); clear hown3 hg3 hat3))
      go_roundw
      case rel => exact ⟨v3, k + 1, rfl, by omega, by rw [q5], by go_num, by
       show Own _ _ _ _ _ _
       rw [HS.out]
       simpa [List.flatMap_append, List.append_assoc] using HO3.out, HB3.out⟩
      case measure => simp [intOf]; omega
    ·have q2 := p3 h1
     have q3 : (x.name != s) = true := by rw [bne, q2]; rfl
     have q4 := yes h1
     have q5 := yes (show place xs s < k + 1 by omega)
     have HS := Lib.hid (setK_hi (v := v) hxm h1)
     clear p1 p2 p3 p4 hc hxm
     rw [q4]
     go_wp2_with ((at_builtin; refine wpList_append_src _ rfl (.tmp 68) (.tmp 73) _ rfl w.heap.size 44 i0 _ 2 32 Tryz.underlying22 hi0 hz00 hz01 hz02 rfl (by decide) _ (setK xs s v k).length ((setK xs s v k).flatMap Ent.cells) rfl (HO.out.below (by (repeat (first | exact Below.refl _ _ | assumption | with_reducible refine below_alloc ?_ _ | with_reducible refine below_grow ?_ _ | with_reducible refine below_drewN ?_ _ | with_reducible refine below_drew ?_ | with_reducible refine below_setCell ?_ (by first | (dsimp only; omega) | (simp; done) | (simp; omega)) _)))) _ 1 (Ent.cells x) rfl rfl (Src.one _ _ _ _) (by simp [Ent.cells, Value.oneCell']) (by unfold maxLen; omega) (by omega) (by first | (simp; done) | omega | (simp; omega)) ?_; intro v2 w2 hown2 hg2 hat2 hty2; have HTY2 := Lib.hid hty2; clear hty2); have HO2 := Lib.hid hown2; have HB2 := Lib.hid (below_keeps (below_then hbl (below_alloc (Below.refl _ _) _)) hg2 (fun k hk => hk.2)); clear hown2 hg2 hat2)
     go_roundw
     case rel => exact ⟨v2, k + 1, rfl, by omega, by rw [q5], by go_num, by
      show Own _ _ _ _ _ _
      rw [HS.out]
      simpa [List.flatMap_append] using HO2.out, HB2.out⟩
     case measure => simp [intOf]; omega
   ·have hk2 : k = xs.length := by omega
    have d0 := no hlt
    clear hlt
    subst hk2
    by_cases hpl : place xs s < xs.length
    ·have q4 := yes hpl
     rw [if_pos hpl] at HE
     rw [q4]
     go_wp2
     go_ret2
     exact ⟨v1, rfl, by rw [← HE.out]; exact HO.out, hbl⟩
    ·have q4 := no hpl
     rw [if_neg hpl] at HE
     have hle := setK_le xs s v _ hk
     have HK : Hid (setK xs s v xs.length = xs) := by show _ = _; unfold setK; rw [if_pos (by have := HPL.out; omega), List.take_length]
     rw [q4]
     rw [HK.out] at HO
     go_wp2_with ((at_builtin; refine wpList_append_src _ rfl (.tmp 77) (.tmp 81) _ rfl w.heap.size 44 i0 _ 2 32 Tryz.underlying22 hi0 hz00 hz01 hz02 rfl (by decide) _ xs.length (xs.flatMap Ent.cells) rfl (HO.out.below (by (repeat (first | exact Below.refl _ _ | assumption | with_reducible refine below_alloc ?_ _ | with_reducible refine below_grow ?_ _ | with_reducible refine below_drewN ?_ _ | with_reducible refine below_drew ?_ | with_reducible refine below_setCell ?_ (by first | (dsimp only; omega) | (simp; done) | (simp; omega)) _)))) _ 1 (Ent.cells ⟨s, v⟩) rfl rfl (Src.one _ _ _ _) (by simp [Ent.cells, Value.oneCell']) (by unfold maxLen; omega) (by omega) (by first | (simp; done) | omega | (simp; omega)) ?_; intro v2 w2 hown2 hg2 hat2 hty2; have HTY2 := Lib.hid hty2; clear hty2); have HO2 := Lib.hid hown2; have HB2 := Lib.hid (below_keeps (below_then hbl (below_alloc (Below.refl _ _) _)) hg2 (fun k hk => hk.2)); clear hown2 hg2 hat2)
     go_ret2
     exact ⟨v2, rfl, by rw [← HE.out]; simpa [List.flatMap_append] using HO2.out, HB2.out⟩
end Go.Proofs.YtfmecpnokefokaaGreatDoor.Tab
