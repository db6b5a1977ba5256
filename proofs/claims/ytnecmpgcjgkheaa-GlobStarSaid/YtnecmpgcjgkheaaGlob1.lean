/-
  The walk of layer 27 (glob): Parts. Conditions: patterns of at most 2^20 bytes.
-/
import Derived.Test.YtnecmpgcjgkheaaGlobPlain
import Derived.Test.YtnecmpgcjgkheaaFil4
import Derived.Test.YtnecmpgcjgkheaaPat21
set_option linter.unusedSimpArgs false
set_option linter.unusedVariables false
namespace Go.Proofs.Ytnecmpgcjgkheaa.Glob
open Go.ChangeShapes Go.WideShapes Go.Deep Go.RowKit Fil Pat
set_option maxRecDepth 100000
/-- Two rows of one's own: components, and the bytes of the next one. -/
structure Two (W : World) (b0 : Nat) (ov hv : Value) (xs : List (List UInt8)) (t : List UInt8) : Prop where
  o : Own W b0 1 ov xs.length (xs.flatMap strC)
  h : Own W b0 1 hv t.length (t.flatMap bytC)
  d : ∀ k, ov.ownBlock = some k → hv.ownBlock ≠ some k
section
variable {W W' : World} {b0 : Nat} {ov hv v' : Value} {xs : List (List UInt8)} {t : List UInt8}
theorem Two.below (h : Two W b0 ov hv xs t) (hb : Below W.heap.size W W') : Two W' b0 ov hv xs t := ⟨h.o.below hb, h.h.below hb, h.d⟩
theorem Two.appO (u : List UInt8) (h : Two W b0 ov hv xs t) (ho : Own W' b0 1 v' (xs.length + 1) (xs.flatMap strC ++ strC u)) (hk : Keeps (fun k => ov.ownBlock = some k ∧ b0 ≤ k) W W') : Two W' b0 v' (.slice none 0 0) (xs ++ [u]) [] :=
  ⟨by simpa [List.flatMap_append] using ho, Own.nil _ _ _, fun k _ e => by cases e⟩
theorem Two.appH (u : List UInt8) (h : Two W b0 ov hv xs t) (ho : Own W' b0 1 v' (t.length + u.length) (t.flatMap bytC ++ u.flatMap bytC)) (hk : Keeps (fun k => hv.ownBlock = some k ∧ b0 ≤ k) W W')
    (hat : v'.ownBlock = hv.ownBlock ∨ ∀ k, v'.ownBlock = some k → W.heap.size ≤ k) : Two W' b0 ov v' xs (t ++ u) :=
  ⟨h.o.keeps hk (fun k e _ hf => h.d k e hf.1), by simpa [List.flatMap_append] using ho, fun k e1 e2 => by
    rcases hat with e | e
    · exact h.d k e1 (e ▸ e2)
    · have := e k e2; have := h.o.lt k e1; omega⟩
end
set_option maxHeartbeats 6400000 in
theorem globParts_any (p : List UInt8) (w : World) (hp : p.length ≤ 1048576) : Calls Try.prog 8 #[.string (B p)] w (StrP (partsG p) w) := by
  obtain ⟨i0, hi0, hz00, hz01, hz02⟩ := info_parts info_str
  obtain ⟨i1, hi1, hz10, hz11, hz12⟩ := info_parts info_byt
  go_enter Try.func8, Try.ntmps8
  go_wp2
  go_step3
  go_wp2
  go_step3
  go_wp2
  go_loopw [3, 4, 5] (fun o h i w' => ∃ (ov hv : Value) (xs : List (List UInt8)) (t : List UInt8) (k : Nat), ov = o ∧ hv = h ∧ i = .int .i64 k ∧ k ≤ p.length ∧ xs.length ≤ k ∧ t.length ≤ k ∧ Hid (partsG p = xs ++ pre t (partsG (p.drop k))) ∧ Hid (Two w' w.heap.size ov hv xs t) ∧ Hid (Below w.heap.size w w')) (fun _ _ i _ => p.length - (intOf i).toNat)
  case atStart => exact ⟨_, _, [], [], 0, rfl, rfl, rfl, by omega, by simp, by simp, by show _ = _; rw [pre_nil]; rfl, ⟨Own.nil _ _ _, Own.nil _ _ _, fun k e => by cases e⟩, Below.refl _ _⟩
  case round =>
    obtain ⟨ov, hv, xs, t, k, rfl, rfl, rfl, hk, hxl, htl, HP, HT, HB⟩ := hrel
    have hbs := HB.out.size
    by_cases hlt : k < p.length
    rotate_left
    · have HE := Lib.hid (show partsG p = xs ++ [t] by rw [HP.out, pg_end (by omega)])
      have d0 := no hlt
      have hcv := conv_bytes HT.out.h rfl
      clear hlt
      go_wp2_with ((at_builtin; refine wpList_append_src _ rfl (.tmp 50) (.tmp 53) _ rfl w.heap.size 9 i0 _ 1 16 Try.underlying24 hi0 hz00 hz01 hz02 rfl (by decide) _ xs.length (xs.flatMap strC) rfl (HT.out.o.below (by (repeat (first | exact Below.refl _ _ | assumption | with_reducible refine below_alloc ?_ _ | with_reducible refine below_grow ?_ _ | with_reducible refine below_drewN ?_ _ | with_reducible refine below_drew ?_ | with_reducible refine below_setCell ?_ (by first | (dsimp only; omega) | (simp; done) | (simp; omega)) _)))) _ 1 (strC t) rfl rfl (Src.one _ _ _ _) (by simp [strC, Value.oneCell']) (by unfold maxLen; omega) (by omega) (by first | (simp; done) | omega | (simp; omega)) ?_; intro v2 w2 hown2 hg2 hat2 hty2; have HTY2 := Lib.hid hty2; clear hty2); have HO2 := Lib.hid hown2; have HB2 := Lib.hid (below_keeps (below_then HB.out (below_alloc (Below.refl _ _) _)) hg2 (fun k hk => hk.2)); clear hown2 hg2 hat2)
      go_ret
      exact ⟨v2, rfl, by rw [HE.out]; simpa [List.flatMap_append] using HO2.out, HB2.out⟩
    have k0 : (0 : Int) ≤ (k : Int) := by omega
    have k1 : (k : Int) < (p.length : Int) := by omega
    have HG := Lib.hid (List.getElem?_eq_getElem hlt)
    by_cases c1 : p[k] = 92 ∧ k + 1 < p.length
    · obtain ⟨c1, hl2⟩ := c1
      have e1 := is_b (n := 92) rfl c1
      have k2 : (0 : Int) ≤ (k : Int) + 1 := by omega
      have k3 : (k : Int) + 1 < (p.length : Int) := by omega
      have HG2 := Lib.hid (List.getElem?_eq_getElem hl2)
      have HC1 := Lib.hid c1
      clear c1
      by_cases c2 : p[k + 1] = 47
      · have e2 := is_b (n := 47) rfl c2
        have e3 := not_b (n := 92) (k := 92) rfl (show ¬ p[k + 1] = 92 by rw [c2]; decide)
        have HP2 := Lib.hid (show partsG p = (xs ++ [t]) ++ pre [] (partsG (p.drop (k + 1 + 1))) by rw [HP.out, pg_esc47 (HC1.out ▸ HG.out) (c2 ▸ HG2.out)]; simp)
        have hcv := conv_bytes HT.out.h rfl
        clear c2
        go_wp2_with ((at_builtin; refine wpList_append_src _ rfl (.tmp 39) (.tmp 42) _ rfl w.heap.size 9 i0 _ 1 16 Try.underlying24 hi0 hz00 hz01 hz02 rfl (by decide) _ xs.length (xs.flatMap strC) rfl (HT.out.o.below (by (repeat (first | exact Below.refl _ _ | assumption | with_reducible refine below_alloc ?_ _ | with_reducible refine below_grow ?_ _ | with_reducible refine below_drewN ?_ _ | with_reducible refine below_drew ?_ | with_reducible refine below_setCell ?_ (by first | (dsimp only; omega) | (simp; done) | (simp; omega)) _)))) _ 1 (strC t) rfl rfl (Src.one _ _ _ _) (by simp [strC, Value.oneCell']) (by unfold maxLen; omega) (by omega) (by first | (simp; done) | omega | (simp; omega)) ?_; intro v2 w2 hown2 hg2 hat2 hty2; have HTY2 := Lib.hid hty2; clear hty2); have HT2 := Lib.hid ((HT.out.below (below_alloc (Below.refl _ _) _)).appO t hown2 hg2); have HB2 := Lib.hid (below_keeps (below_then HB.out (below_alloc (Below.refl _ _) _)) hg2 (fun k hk => hk.2)); clear hown2 hg2 hat2)
        go_roundw
        case rel => exact ⟨v2, _, xs ++ [t], [], k + 1 + 1, rfl, rfl, by go_num, by omega, by simp; omega, by simp, HP2.out, HT2.out, HB2.out⟩
        case measure => simp [intOf]; omega
      · have e2 := not_b (n := 47) rfl c2
        have HP2 := Lib.hid (show partsG p = xs ++ pre (t ++ [92, p[k + 1]]) (partsG (p.drop (k + 1 + 1))) by rw [HP.out, pg_esc (HC1.out ▸ HG.out) HG2.out c2])
        clear c2
        go_wp2_with ((at_builtin; refine wpList_append_src _ rfl (.tmp 29) (.tmp 33) _ rfl w.heap.size 5 i1 _ 1 1 Try.underlying41 hi1 hz10 hz11 hz12 rfl (by decide) _ t.length (t.flatMap bytC) rfl (HT.out.h.below (by (repeat (first | exact Below.refl _ _ | assumption | with_reducible refine below_alloc ?_ _ | with_reducible refine below_grow ?_ _ | with_reducible refine below_drewN ?_ _ | with_reducible refine below_drew ?_ | with_reducible refine below_setCell ?_ (by first | (dsimp only; omega) | (simp; done) | (simp; omega)) _)))) _ 2 [.int .u8 92, .int .u8 p[k + 1].toNat] rfl rfl (Src.one _ _ _ _) (by simp [Value.oneCell']) (by unfold maxLen; omega) (by omega) (by first | (simp; done) | omega | (simp; omega)) ?_; intro v2 w2 hown2 hg2 hat2 hty2; have HTY2 := Lib.hid hty2; clear hty2); have HT2 := Lib.hid ((HT.out.below (below_alloc (Below.refl _ _) _)).appH (W' := w2) [92, p[k + 1]] hown2 hg2 hat2); have HB2 := Lib.hid (below_keeps (below_then HB.out (below_alloc (Below.refl _ _) _)) hg2 (fun k hk => hk.2)); clear hown2 hg2 hat2)
        go_roundw
        case rel => exact ⟨ov, v2, xs, t ++ [92, p[k + 1]], k + 1 + 1, rfl, rfl, by go_num, by omega, by omega, by simp; omega, HP2.out, HT2.out, HB2.out⟩
        case measure => simp [intOf]; omega
    · by_cases c2 : p[k] = 47
      · have e1 := not_b (n := 92) (k := 92) rfl (show ¬ p[k] = 92 by rw [c2]; decide)
        have e2 := is_b (n := 47) rfl c2
        have HP2 := Lib.hid (show partsG p = (xs ++ [t]) ++ pre [] (partsG (p.drop (k + 1))) by rw [HP.out, pg_47 (c2 ▸ HG.out)]; simp)
        have hcv := conv_bytes HT.out.h rfl
        clear c1 c2
        go_wp2_with ((at_builtin; refine wpList_append_src _ rfl (.tmp 39) (.tmp 42) _ rfl w.heap.size 9 i0 _ 1 16 Try.underlying24 hi0 hz00 hz01 hz02 rfl (by decide) _ xs.length (xs.flatMap strC) rfl (HT.out.o.below (by (repeat (first | exact Below.refl _ _ | assumption | with_reducible refine below_alloc ?_ _ | with_reducible refine below_grow ?_ _ | with_reducible refine below_drewN ?_ _ | with_reducible refine below_drew ?_ | with_reducible refine below_setCell ?_ (by first | (dsimp only; omega) | (simp; done) | (simp; omega)) _)))) _ 1 (strC t) rfl rfl (Src.one _ _ _ _) (by simp [strC, Value.oneCell']) (by unfold maxLen; omega) (by omega) (by first | (simp; done) | omega | (simp; omega)) ?_; intro v2 w2 hown2 hg2 hat2 hty2; have HTY2 := Lib.hid hty2; clear hty2); have HT2 := Lib.hid ((HT.out.below (below_alloc (Below.refl _ _) _)).appO t hown2 hg2); have HB2 := Lib.hid (below_keeps (below_then HB.out (below_alloc (Below.refl _ _) _)) hg2 (fun k hk => hk.2)); clear hown2 hg2 hat2)
        go_roundw
        case rel => exact ⟨v2, _, xs ++ [t], [], k + 1, rfl, rfl, by go_num, by omega, by simp; omega, by simp, HP2.out, HT2.out, HB2.out⟩
        case measure => simp [intOf]; omega
      · have e2 := not_b (n := 47) rfl c2
        have HP2 := Lib.hid (show partsG p = xs ++ pre (t ++ [p[k]]) (partsG (p.drop (k + 1))) by rw [HP.out, pg_byte HG.out c2 (fun e => List.getElem?_eq_none_iff.2 (Nat.le_of_not_lt fun q => c1 ⟨e, q⟩))])
        by_cases c3 : p[k] = 92
        · have e1 := is_b (n := 92) rfl c3
          have d1 := no (show ¬ (k : Int) + 1 < (p.length : Int) by have : p.length ≤ k + 1 := Nat.le_of_not_lt fun q => c1 ⟨c3, q⟩; omega)
          clear c1 c2 c3
          go_wp2_with ((at_builtin; refine wpList_append_src _ rfl (.tmp 44) (.tmp 48) _ rfl w.heap.size 5 i1 _ 1 1 Try.underlying41 hi1 hz10 hz11 hz12 rfl (by decide) _ t.length (t.flatMap bytC) rfl (HT.out.h.below (by (repeat (first | exact Below.refl _ _ | assumption | with_reducible refine below_alloc ?_ _ | with_reducible refine below_grow ?_ _ | with_reducible refine below_drewN ?_ _ | with_reducible refine below_drew ?_ | with_reducible refine below_setCell ?_ (by first | (dsimp only; omega) | (simp; done) | (simp; omega)) _)))) _ 1 (bytC p[k]) rfl rfl (Src.one _ _ _ _) (by simp [bytC, Value.oneCell']) (by unfold maxLen; omega) (by omega) (by first | (simp; done) | omega | (simp; omega)) ?_; intro v2 w2 hown2 hg2 hat2 hty2; have HTY2 := Lib.hid hty2; clear hty2); have HT2 := Lib.hid ((HT.out.below (below_alloc (Below.refl _ _) _)).appH (W' := w2) [p[k]] hown2 hg2 hat2); have HB2 := Lib.hid (below_keeps (below_then HB.out (below_alloc (Below.refl _ _) _)) hg2 (fun k hk => hk.2)); clear hown2 hg2 hat2)
          go_roundw
          case rel => exact ⟨ov, v2, xs, t ++ [p[k]], k + 1, rfl, rfl, by go_num, by omega, by omega, by simp; omega, HP2.out, HT2.out, HB2.out⟩
          case measure => simp [intOf]; omega
        · have e1 := not_b (n := 92) rfl c3
          clear c1 c2 c3
          go_wp2_with ((at_builtin; refine wpList_append_src _ rfl (.tmp 44) (.tmp 48) _ rfl w.heap.size 5 i1 _ 1 1 Try.underlying41 hi1 hz10 hz11 hz12 rfl (by decide) _ t.length (t.flatMap bytC) rfl (HT.out.h.below (by (repeat (first | exact Below.refl _ _ | assumption | with_reducible refine below_alloc ?_ _ | with_reducible refine below_grow ?_ _ | with_reducible refine below_drewN ?_ _ | with_reducible refine below_drew ?_ | with_reducible refine below_setCell ?_ (by first | (dsimp only; omega) | (simp; done) | (simp; omega)) _)))) _ 1 (bytC p[k]) rfl rfl (Src.one _ _ _ _) (by simp [bytC, Value.oneCell']) (by unfold maxLen; omega) (by omega) (by first | (simp; done) | omega | (simp; omega)) ?_; intro v2 w2 hown2 hg2 hat2 hty2; have HTY2 := Lib.hid hty2; clear hty2); have HT2 := Lib.hid ((HT.out.below (below_alloc (Below.refl _ _) _)).appH (W' := w2) [p[k]] hown2 hg2 hat2); have HB2 := Lib.hid (below_keeps (below_then HB.out (below_alloc (Below.refl _ _) _)) hg2 (fun k hk => hk.2)); clear hown2 hg2 hat2)
          go_roundw
          case rel => exact ⟨ov, v2, xs, t ++ [p[k]], k + 1, rfl, rfl, by go_num, by omega, by omega, by simp; omega, HP2.out, HT2.out, HB2.out⟩
          case measure => simp [intOf]; omega
end Go.Proofs.Ytnecmpgcjgkheaa.Glob
