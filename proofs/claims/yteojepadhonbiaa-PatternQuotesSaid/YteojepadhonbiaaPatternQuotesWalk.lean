/-
  The walk of the law PatternQuotes: it returns true, whatever its arguments. Conditions: the library's variable MaxLen holds some number.
-/
import Derived.Test.YteojepadhonbiaaPat22
import Derived.Test.YteojepadhonbiaaPatternWalks
namespace Go.Proofs.Yteojepadhonbiaa.patternQuotes
open Go.ChangeShapes Go.WideShapes Go.Deep Go.ChangeAt Go.RowKit Pat
set_option maxRecDepth 100000
theorem special_in (c : UInt8) : [92, 42, 63, 91].contains c = special c := by
  have h : ∀ n : Fin 256, [92, 42, 63, 91].contains (UInt8.ofNat n.val) = special (UInt8.ofNat n.val) := by decide +kernel
  have := h ⟨c.toNat, c.toNat_lt⟩
  simpa using this
theorem lit_quote (s : List UInt8) : litB (parse (quote s)) = true ∧ litT (parse (quote s)) = s := by
  have h1 : litB (parse (quote s)) = true := by rw [parse_quoted]; unfold litB; simp [At.isByte]
  refine ⟨h1, ?_⟩
  unfold litT
  rw [h1, if_pos rfl, parse_quoted, List.map_map]
  conv => rhs; rw [← List.map_id s]
  rfl
set_option maxHeartbeats 3200000 in
theorem walk {H : Type} (enc : TypeId × Value → H) (w : World) (base : Nat) (hm : MaxL w) {v0 v1 : Value} {d0 d1 : DataW H} {p0 p1 : List MemPlace}
    (h0 : DataW.Trod enc Try.prog w 0 (fun _ => true) true 9 v0 d0 p0) (k0 : Value.okWide Try.prog w .any base 9 v0)
    (h1 : DataW.Trod enc Try.prog w 0 (fun _ => true) true 9 v1 d1 p1) (k1 : Value.okWide Try.prog w .any base 9 v1) :
    Calls Try.prog 10 #[v0, v1] w fun e w' => e = .returned (.bool true) ∧ Below w.heap.size w w' := by
  obtain ⟨s, rfl, hs⟩ := open_text h0 k0
  obtain ⟨t, rfl, ht⟩ := open_text h1 k1
  clear h0 k0 h1 k1
  have HAW := Lib.hid fun w hm => awake16 w hm
  have HM := Lib.hid hm
  clear hm
  by_cases hl : 60 < s.length
  · go_enter Try.func10, Try.ntmps10
    go_wp2_with (go_at_call 32; refine (HAW.out _ HM.out).mono ?_; rintro e w' ⟨rfl, hb⟩; obtain ⟨g, rfl⟩ := to_grow hb; clear hb)
    go_ret
    exact ⟨rfl, by (repeat (first | with_reducible exact Below.refl _ _ | with_reducible assumption | with_reducible refine below_alloc ?_ _ | with_reducible refine below_grow ?_ _ | with_reducible refine below_drewN ?_ _ | with_reducible refine below_drew ?_ | with_reducible refine below_setCell ?_ (by first | (dsimp only; omega) | (simp; done) | (simp; omega)) _))⟩
  have d1 := no (show ¬ (60 : Int) < (s.length : Int) by omega)
  by_cases hl2 : 60 < t.length
  · clear hl
    go_enter Try.func10, Try.ntmps10
    go_wp2_with (go_at_call 32; refine (HAW.out _ HM.out).mono ?_; rintro e w' ⟨rfl, hb⟩; obtain ⟨g, rfl⟩ := to_grow hb; clear hb)
    go_ret
    exact ⟨rfl, by (repeat (first | with_reducible exact Below.refl _ _ | with_reducible assumption | with_reducible refine below_alloc ?_ _ | with_reducible refine below_grow ?_ _ | with_reducible refine below_drewN ?_ _ | with_reducible refine below_drew ?_ | with_reducible refine below_setCell ?_ (by first | (dsimp only; omega) | (simp; done) | (simp; omega)) _))⟩
  have d2 := no (show ¬ (60 : Int) < (t.length : Int) by omega)
  have hql := quote_len s
  have hmt := fun w hm => match_all (quote s) t w hm (by omega) (by omega)
  have hms := fun w hm => match_all (quote s) s w hm (by omega) (by omega)
  rw [parse_quoted, gm_bytes] at hmt hms
  rw [beq_self_eq_true] at hms
  have hlt := fun w hm => literal_any (quote s) w hm (by omega)
  unfold LitP at hlt
  rw [(lit_quote s).1, (lit_quote s).2] at hlt
  have HMT := Lib.hid hmt
  have HMS := Lib.hid hms
  have HLT := Lib.hid hlt
  have HQ := Lib.hid fun w => quote_any s w (by omega)
  have hs60 : s.length ≤ 60 := by omega
  clear hl hl2 hmt hms hlt
  go_enter Try.func10, Try.ntmps10
  go_wp2_with (go_at_call 32; refine (HAW.out _ HM.out).mono ?_; rintro e w' ⟨rfl, hb⟩; obtain ⟨g, rfl⟩ := to_grow hb; clear hb)
  clear d1 d2
  rw [show ({ data := #[] } : ByteArray) = B [] from rfl]
  go_loopw [5, 6] (fun s5 i w' => ∃ k : Nat, k ≤ s.length ∧ s5 = .string (B (quote (s.take k))) ∧ i = .int .i64 k ∧ Below w.heap.size w w') (fun _ i _ => s.length - (intOf i).toNat)
  case atStart => exact ⟨0, by omega, rfl, rfl, by (repeat (first | with_reducible exact Below.refl _ _ | with_reducible assumption | with_reducible refine below_alloc ?_ _ | with_reducible refine below_grow ?_ _ | with_reducible refine below_drewN ?_ _ | with_reducible refine below_drew ?_ | with_reducible refine below_setCell ?_ (by first | (dsimp only; omega) | (simp; done) | (simp; omega)) _))⟩
  case round =>
    obtain ⟨k, hk, rfl, rfl, hb⟩ := hrel
    by_cases hlt : k < s.length
    · have k0 : (0 : Int) ≤ (k : Int) := by omega
      have k1 : (k : Int) < (s.length : Int) := by omega
      have k2 : (k : Int) + 1 ≤ (s.length : Int) := by omega
      have hin := fun w => in_any s[k] [92, 42, 63, 91] w (by decide)
      rw [special_in] at hin
      have HIN := Lib.hid hin
      have ho := one_at s k hlt
      have hqk : (quote (s.take k)).length ≤ 1000000 := by have := quote_len (s.take k); simp at this; omega
      have HT := Lib.hid (show quote (s.take (k + 1)) = quote (s.take k) ++ quoteC s[k] by rw [List.take_succ_eq_append_getElem hlt, quote_snoc])
      clear hin
      cases hsp : special s[k] with
      | true =>
        rw [hsp] at HIN
        have HQC := Lib.hid (show quoteC s[k] = [92, s[k]] by unfold quoteC; rw [if_pos hsp])
        clear hsp
        go_wp2_with (go_at_call 39; refine (HIN.out _).mono ?_; rintro e w' ⟨rfl, rfl⟩)
        go_roundw
        case rel => exact ⟨k + 1, by omega, by rw [HT.out, HQC.out], by go_num, hb⟩
        case measure => simp [intOf]; omega
      | false =>
        rw [hsp] at HIN
        have HQC := Lib.hid (show quoteC s[k] = [s[k]] by unfold quoteC; rw [if_neg (by simp [hsp])])
        clear hsp
        go_wp2_with (go_at_call 39; refine (HIN.out _).mono ?_; rintro e w' ⟨rfl, rfl⟩)
        go_roundw
        case rel => exact ⟨k + 1, by omega, by rw [HT.out, HQC.out], by go_num, hb⟩
        case measure => simp [intOf]; omega
    · have hk2 : k = s.length := by omega
      subst hk2
      simp only [List.take_length]
      have d0 := no (Nat.lt_irrefl s.length)
      clear hlt
      go_wp2_with (first
        | (go_at_call 40; refine (HQ.out _).mono ?_; rintro e w1 ⟨rfl, hb1⟩; have HB1 := Lib.hid (below_then hb hb1); clear hb1)
        | (go_at_call 41; refine (HLT.out _ (HM.out.below HB1.out)).mono ?_; rintro e w2 ⟨rfl, hb2⟩; have HB2 := Lib.hid (below_then HB1.out hb2); clear hb2)
        | (go_at_call 35; (with_reducible refine (HMT.out _ (HM.out.below HB2.out)).mono ?_); rintro e w3 ⟨rfl, hb3⟩; have HB3 := Lib.hid (below_then HB2.out hb3); clear hb3)
        | (go_at_call 35; (with_reducible refine (HMS.out _ (HM.out.below HB3.out)).mono ?_); rintro e w4 ⟨rfl, hb4⟩; have HB4 := Lib.hid (below_then HB3.out hb4); clear hb4))
      go_ret
      exact ⟨rfl, HB4.out⟩
end Go.Proofs.Yteojepadhonbiaa.patternQuotes
