/-
  The walk of layer 16 (pattern): Quote. Conditions: texts of at most 2^30 bytes.
-/
import Derived.Test.YteojepadhonbiaaPat19
import Derived.Test.YteojepadhonbiaaNums
import Derived.Lib.SlBytesRow
import Derived.Lib.BufferRead
namespace Go.Proofs.Yteojepadhonbiaa.Pat
open Go.ChangeShapes Go.WideShapes Go.Deep Go.RowKit
set_option maxRecDepth 100000
theorem bytC_get (xs : List UInt8) (j : Nat) : (xs.flatMap bytC)[j]? = (xs[j]?).map fun y => Value.int .u8 y.toNat := by
  induction xs generalizing j with
  | nil => simp
  | cons y ys ih =>
    cases j with
    | zero => simp [bytC]
    | succ j => simpa [bytC] using ih j
/-- 'string(b)' of an own slice of bytes. -/
theorem conv_bytes {w : World} {b0 n : Nat} {v : Value} {l : List UInt8} (h : Own w b0 1 v n (l.flatMap bytC)) (hn : n = l.length) : (convert 64 9 v).run Try.prog w = .ok (.string (B l)) w := by
  subst hn
  rcases h.2 with ⟨h0, rfl | ⟨g, off, rfl, hg⟩⟩ | ⟨g, off, c, rfl, h1, h2, h3, h4, h5, h6⟩
  · have : l = [] := List.eq_nil_of_length_eq_zero h0
    subst this
    exact Lib.run_convert_nil_bytes w _ _ _ _ Try.underlying64 Try.underlying5 Try.underlying9
  · have : l = [] := List.eq_nil_of_length_eq_zero h0
    subst this
    have := Lib.run_convert_whole (P := Try.prog) w _ _ _ Try.underlying64 Try.underlying5 Try.underlying9 g off (B []) (fun i hi => by rw [B_size] at hi; simp at hi) 0
    rw [B_size] at this
    exact this
  · have := Lib.run_convert_whole (P := Try.prog) w _ _ _ Try.underlying64 Try.underlying5 Try.underlying9 g off (B l) (fun i hi => by
      rw [B_size] at hi
      refine h6 i _ ?_
      rw [bytC_get, List.getElem?_eq_getElem hi]
      rfl) c
    rwa [B_size] at this
theorem quote_snoc (s : List UInt8) (c : UInt8) : quote (s ++ [c]) = quote s ++ quoteC c := by simp [quote]
set_option maxHeartbeats 3200000 in
theorem quote_any (s : List UInt8) (w : World) (hs : s.length ≤ 1073741824) : Calls Try.prog 40 #[.string (B s)] w fun e w' => e = .returned (.string (B (quote s))) ∧ Below w.heap.size w w' := by
  obtain ⟨i1, hi1, hz10, hz11, hz12⟩ := info_parts info_byt
  go_enter Try.func40, Try.ntmps40
  go_wp2
  rw [show ({ data := #[] } : ByteArray) = B [] from rfl]
  go_loopw [3, 7] (fun s3 i w' => ∃ (v : Value) (k : Nat), v = s3 ∧ i = .int .i64 k ∧ k ≤ s.length ∧ Hid (Own w' w.heap.size 1 v (quote (s.take k)).length ((quote (s.take k)).flatMap bytC)) ∧ Below w.heap.size w w') (fun _ i _ => s.length - (intOf i).toNat)
  case atStart => exact ⟨_, 0, rfl, rfl, by omega, by rw [List.take_zero]; exact Own.nil _ _ _, by (repeat (first | with_reducible exact Below.refl _ _ | with_reducible assumption | with_reducible refine below_alloc ?_ _ | with_reducible refine below_grow ?_ _ | with_reducible refine below_drewN ?_ _ | with_reducible refine below_drew ?_ | with_reducible refine below_setCell ?_ (by first | (dsimp only; omega) | (simp; done) | (simp; omega)) _))⟩
  case round =>
    obtain ⟨v, k, rfl, rfl, hk, HO, hb⟩ := hrel
    have hbs := hb.size
    by_cases hlt : k < s.length
    rotate_left
    · have hk2 : k = s.length := by omega
      have ho := HO.out
      rw [hk2, List.take_length] at ho
      have hcv := conv_bytes ho rfl
      have d0 := no hlt
      clear ho hk2 hlt
      go_wp2
      go_ret
      exact ⟨rfl, hb⟩
    have k0 : (0 : Int) ≤ (k : Int) := by omega
    have k1 : (k : Int) < (s.length : Int) := by omega
    have hql : (quote (s.take k)).length ≤ 2147483648 := by have := quote_len (s.take k); simp at this; omega
    have HT := Lib.hid (show quote (s.take (k + 1)) = quote (s.take k) ++ quoteC s[k] by rw [List.take_succ_eq_append_getElem hlt, quote_snoc])
    by_cases hsp : special s[k] = true
    · have HQ := Lib.hid (show quoteC s[k] = [92, s[k]] by unfold quoteC; rw [if_pos hsp])
      have hor : s[k] = 92 ∨ s[k] = 42 ∨ s[k] = 63 ∨ s[k] = 91 := by simpa [special, or_assoc] using hsp
      clear hsp
      rcases hor with h | h | h | h
      all_goals
        try have e0 := is_b (n := 92) rfl h
        try have e0 := not_b (c := s[k]) (k := 92) (n := 92) rfl (by rw [h]; decide)
        try have e1 := is_b (n := 42) rfl h
        try have e1 := not_b (c := s[k]) (k := 42) (n := 42) rfl (by rw [h]; decide)
        try have e2 := is_b (n := 63) rfl h
        try have e2 := not_b (c := s[k]) (k := 63) (n := 63) rfl (by rw [h]; decide)
        try have e3 := is_b (n := 91) rfl h
        try have e3 := not_b (c := s[k]) (k := 91) (n := 91) rfl (by rw [h]; decide)
        clear h
        go_wp2_with (first
          | ((at_builtin; refine wpList_append_src _ rfl (.tmp 18) (.tmp 19) _ rfl w.heap.size 5 i1 _ 1 1 Try.underlying64 hi1 hz10 hz11 hz12 rfl (by decide) _ (quote (s.take k)).length ((quote (s.take k)).flatMap bytC) rfl (HO.out.below (by (repeat (first | exact Below.refl _ _ | assumption | with_reducible refine below_alloc ?_ _ | with_reducible refine below_grow ?_ _ | with_reducible refine below_drewN ?_ _ | with_reducible refine below_drew ?_ | with_reducible refine below_setCell ?_ (by first | (dsimp only; omega) | (simp; done) | (simp; omega)) _)))) _ 1 [.int .u8 92] rfl rfl (Src.one _ _ _ _) (by simp [Value.oneCell']) (by unfold maxLen; omega) (by omega) (by first | (simp; done) | omega | (simp; omega)) ?_; intro v1 w1 hown1 hg1 hat1 hty1; have HTY1 := Lib.hid hty1; clear hty1); have HO1 := Lib.hid hown1; have HB1 := Lib.hid (below_keeps (below_then hb (below_alloc (Below.refl _ _) _)) hg1 (fun k hk => hk.2)); have hz1 := HB1.out.size; clear hown1 hg1 hat1)
          | ((at_builtin; refine wpList_append_src _ rfl (.tmp 21) (.tmp 25) _ rfl w.heap.size 5 i1 _ 1 1 Try.underlying64 hi1 hz10 hz11 hz12 rfl (by decide) _ ((quote (s.take k)).length + 1) ((quote (s.take k)).flatMap bytC ++ [.int .u8 92]) rfl (HO1.out.below (by (repeat (first | exact Below.refl _ _ | assumption | with_reducible refine below_alloc ?_ _ | with_reducible refine below_grow ?_ _ | with_reducible refine below_drewN ?_ _ | with_reducible refine below_drew ?_ | with_reducible refine below_setCell ?_ (by first | (dsimp only; omega) | (simp; done) | (simp; omega)) _)))) _ 1 (bytC s[k]) rfl rfl (Src.one _ _ _ _) (by simp [bytC, Value.oneCell']) (by unfold maxLen; omega) (by omega) (by first | (simp; done) | omega | (simp; omega)) ?_; intro v2 w2 hown2 hg2 hat2 hty2; have HTY2 := Lib.hid hty2; clear hty2); have HO2 := Lib.hid hown2; have HB2 := Lib.hid (below_keeps (below_then HB1.out (below_alloc (Below.refl _ _) _)) hg2 (fun k hk => hk.2)); clear hown2 hg2 hat2))
        go_roundw
        case rel =>
          refine ⟨v2, k + 1, rfl, by go_num, by omega, ?_, HB2.out⟩
          show Own _ _ _ _ _ _
          rw [HT.out, HQ.out]
          have := HO2.out
          simpa [bytC, Nat.add_assoc] using this
        case measure => simp [intOf]; omega
    · have HQ := Lib.hid (show quoteC s[k] = [s[k]] by unfold quoteC; rw [if_neg hsp])
      have hn : ¬ s[k] = 92 ∧ ¬ s[k] = 42 ∧ ¬ s[k] = 63 ∧ ¬ s[k] = 91 := by simpa [special, or_assoc] using hsp
      obtain ⟨n0, n1, n2, n3⟩ := hn
      have e0 := not_b (n := 92) rfl n0
      have e1 := not_b (n := 42) rfl n1
      have e2 := not_b (n := 63) rfl n2
      have e3 := not_b (n := 91) rfl n3
      clear hsp n0 n1 n2 n3
      go_wp2_with ((at_builtin; refine wpList_append_src _ rfl (.tmp 21) (.tmp 25) _ rfl w.heap.size 5 i1 _ 1 1 Try.underlying64 hi1 hz10 hz11 hz12 rfl (by decide) _ (quote (s.take k)).length ((quote (s.take k)).flatMap bytC) rfl (HO.out.below (by (repeat (first | exact Below.refl _ _ | assumption | with_reducible refine below_alloc ?_ _ | with_reducible refine below_grow ?_ _ | with_reducible refine below_drewN ?_ _ | with_reducible refine below_drew ?_ | with_reducible refine below_setCell ?_ (by first | (dsimp only; omega) | (simp; done) | (simp; omega)) _)))) _ 1 (bytC s[k]) rfl rfl (Src.one _ _ _ _) (by simp [bytC, Value.oneCell']) (by unfold maxLen; omega) (by omega) (by first | (simp; done) | omega | (simp; omega)) ?_; intro v2 w2 hown2 hg2 hat2 hty2; have HTY2 := Lib.hid hty2; clear hty2); have HO2 := Lib.hid hown2; have HB2 := Lib.hid (below_keeps (below_then hb (below_alloc (Below.refl _ _) _)) hg2 (fun k hk => hk.2)); clear hown2 hg2 hat2)
      go_roundw
      case rel =>
        refine ⟨v2, k + 1, rfl, by go_num, by omega, ?_, HB2.out⟩
        show Own _ _ _ _ _ _
        rw [HT.out, HQ.out]
        have := HO2.out
        simpa [bytC, Nat.add_assoc] using this
      case measure => simp [intOf]; omega
end Go.Proofs.Yteojepadhonbiaa.Pat
