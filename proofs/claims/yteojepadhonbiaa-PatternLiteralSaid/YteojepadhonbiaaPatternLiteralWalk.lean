/-
  The walk of the law PatternLiteral: it returns true, whatever its arguments. Conditions: the library's variable MaxLen holds some number.
-/
import Derived.Test.YteojepadhonbiaaPat22
import Derived.Test.YteojepadhonbiaaPatternWalks
namespace Go.Proofs.Yteojepadhonbiaa.patternLiteral
open Go.ChangeShapes Go.WideShapes Go.Deep Go.ChangeAt Go.RowKit Pat
set_option maxRecDepth 100000
theorem litB_snoc (l : List At) (k : Nat) (h : k < l.length) : litB (l.take (k + 1)) = (litB (l.take k) && l[k].isByte) := by
  unfold litB; rw [List.take_succ_eq_append_getElem h, List.all_append]; simp only [List.all_cons, List.all_nil, Bool.and_true]
theorem map_snoc (l : List At) (k : Nat) (h : k < l.length) : (l.take (k + 1)).map At.byt = (l.take k).map At.byt ++ [l[k].byt] := by
  rw [List.take_succ_eq_append_getElem h, List.map_append]; rfl
theorem bytes_of {l : List At} (h : litB l = true) : l = (l.map At.byt).map .byte := by
  induction l with
  | nil => rfl
  | cons a l ih =>
    unfold litB at h
    rw [List.all_cons, Bool.and_eq_true] at h
    rw [List.map_cons, List.map_cons, ← ih h.2]
    cases a <;> first | rfl | exact absurd h.1 (by simp [At.isByte])
/-- 'string([]byte{c})', where the slice is new. -/
theorem conv_one (w : World) (c : UInt8) : (convert 64 9 (.slice (some ⟨w.heap.size, 0, none⟩) 1 1)).run Try.prog (w.alloc (.cells #[.int .u8 c.toNat] 5)) = .ok (.string (B [c])) (w.alloc (.cells #[.int .u8 c.toNat] 5)) := by
  have := Lib.run_convert_whole (P := Try.prog) (w.alloc (.cells #[.int .u8 c.toNat] 5)) _ _ _ Try.underlying64 Try.underlying5 Try.underlying9 w.heap.size 0 (B [c]) (fun i hi => by
    rw [B_size] at hi
    have : i = 0 := by simpa using hi
    subst this
    go_simp) 1
  rwa [B_size] at this
theorem byte_kind2 (a : At) : (a.kind == 1) = a.isByte := by cases a <;> rfl
set_option maxHeartbeats 3200000 in
theorem walk {H : Type} (enc : TypeId × Value → H) (w : World) (base : Nat) (hm : MaxL w) {v0 v1 : Value} {d0 d1 : DataW H} {p0 p1 : List MemPlace}
    (h0 : DataW.Trod enc Try.prog w 0 (fun _ => true) true 9 v0 d0 p0) (k0 : Value.okWide Try.prog w .any base 9 v0)
    (h1 : DataW.Trod enc Try.prog w 0 (fun _ => true) true 9 v1 d1 p1) (k1 : Value.okWide Try.prog w .any base 9 v1) :
    Calls Try.prog 11 #[v0, v1] w fun e w' => e = .returned (.bool true) ∧ Below w.heap.size w w' := by
  obtain ⟨p, rfl, hp⟩ := open_text h0 k0
  obtain ⟨s, rfl, hs⟩ := open_text h1 k1
  clear h0 k0 h1 k1
  have HAW := Lib.hid fun w hm => awake16 w hm
  have HM := Lib.hid hm
  clear hm
  by_cases hl : 60 < p.length
  · go_enter Try.func11, Try.ntmps11
    go_wp2_with (go_at_call 32; refine (HAW.out _ HM.out).mono ?_; rintro e w' ⟨rfl, hb⟩; obtain ⟨g, rfl⟩ := to_grow hb; clear hb)
    go_ret
    exact ⟨rfl, by (repeat (first | with_reducible exact Below.refl _ _ | with_reducible assumption | with_reducible refine below_alloc ?_ _ | with_reducible refine below_grow ?_ _ | with_reducible refine below_drewN ?_ _ | with_reducible refine below_drew ?_ | with_reducible refine below_setCell ?_ (by first | (dsimp only; omega) | (simp; done) | (simp; omega)) _))⟩
  have d1 := no (show ¬ (60 : Int) < (p.length : Int) by omega)
  by_cases hl2 : 60 < s.length
  · clear hl
    go_enter Try.func11, Try.ntmps11
    go_wp2_with (go_at_call 32; refine (HAW.out _ HM.out).mono ?_; rintro e w' ⟨rfl, hb⟩; obtain ⟨g, rfl⟩ := to_grow hb; clear hb)
    go_ret
    exact ⟨rfl, by (repeat (first | with_reducible exact Below.refl _ _ | with_reducible assumption | with_reducible refine below_alloc ?_ _ | with_reducible refine below_grow ?_ _ | with_reducible refine below_drewN ?_ _ | with_reducible refine below_drew ?_ | with_reducible refine below_setCell ?_ (by first | (dsimp only; omega) | (simp; done) | (simp; omega)) _))⟩
  have d2 := no (show ¬ (60 : Int) < (s.length : Int) by omega)
  have hpl := parse_len p
  have HR := Lib.hid fun w => parse_ref p w (by omega)
  have hlt := fun w hm => literal_any p w hm (by omega)
  have hmt := fun w hm => match_all p s w hm (by omega) (by omega)
  unfold LitP at hlt
  have HMT := Lib.hid hmt
  have HLT := Lib.hid hlt
  have hpl2 : (parse p).length ≤ 60 := by omega
  clear hl hl2 hmt hlt hpl
  go_enter Try.func11, Try.ntmps11
  go_wp2_with (first | (go_at_call 32; refine (HAW.out _ HM.out).mono ?_; rintro e w' ⟨rfl, hb⟩; obtain ⟨g, rfl⟩ := to_grow hb; clear hb) | (go_at_call 34; refine (HR.out _).mono ?_; rintro e w1 ⟨u, rfl, hu, hb⟩; have HU := Lib.hid hu; obtain ⟨g2, rfl⟩ := to_grow hb; clear hu hb; obtain ⟨A2, c2, rfl, hA2⟩ := HU.out; clear hA2))
  rw [show ({ data := #[] } : ByteArray) = B [] from rfl]
  go_loopw [6, 7, 8] (fun s6 s7 i w' => ∃ k : Nat, k ≤ (parse p).length ∧ s6 = .bool (litB ((parse p).take k)) ∧ s7 = .string (B (((parse p).take k).map At.byt)) ∧ i = .int .i64 k ∧ Hid (Sl w' atC 6 (.slice A2 (parse p).length c2) (parse p)) ∧ Below w.heap.size w w') (fun _ _ i _ => (parse p).length - (intOf i).toNat)
  case atStart => exact ⟨0, by omega, rfl, rfl, rfl, HU.out, by (repeat (first | exact Below.refl _ _ | assumption | with_reducible refine below_alloc ?_ _ | with_reducible refine below_grow ?_ _ | with_reducible refine below_drewN ?_ _ | with_reducible refine below_drew ?_ | with_reducible refine below_setCell ?_ (by first | (dsimp only; omega) | (simp; done) | (simp; omega)) _))⟩
  case round =>
    clear HU
    obtain ⟨k, hk, rfl, rfl, rfl, HU, hb⟩ := hrel
    by_cases hkl : k < (parse p).length
    · generalize parse p = l at *
      obtain ⟨A2', c2', e2, -, -, -, h2⟩ := HU.out
      obtain ⟨g2, o2, rfl, hg2, hc2⟩ := h2 (by omega)
      cases e2
      have f' := hc2 k _ (List.getElem?_eq_getElem hkl)
      have b0 := f' 0 _ rfl
      have b1 := f' 1 _ rfl
      simp only [Nat.add_zero] at b0
      haveI : Old wr g2 := ⟨hg2⟩
      have i0 : (0 : Int) ≤ (k : Int) := by omega
      have i1 : (k : Int) < (l.length : Int) := by omega
      have HB := Lib.hid (litB_snoc l k hkl)
      have HT := Lib.hid (map_snoc l k hkl)
      have hkb := byte_kind2 l[k]
      have hln : ((l.take k).map At.byt).length ≤ 60 := by simp; omega
      clear f' hc2 h2
      generalize l[k] = a at *
      have hb1 := conv_one wr a.byt
      cases hx : litB (l.take k) with
      | false =>
        rw [hx, Bool.false_and] at HB
        go_wp2
        go_roundw
        case rel => exact ⟨k + 1, by omega, by rw [HB.out], by rw [HT.out, List.map_take], by go_num, HU.out.below (by (repeat (first | exact Below.refl _ _ | assumption | with_reducible refine below_alloc ?_ _ | with_reducible refine below_grow ?_ _ | with_reducible refine below_drewN ?_ _ | with_reducible refine below_drew ?_ | with_reducible refine below_setCell ?_ (by first | (dsimp only; omega) | (simp; done) | (simp; omega)) _))), below_then hb (by (repeat (first | exact Below.refl _ _ | assumption | with_reducible refine below_alloc ?_ _ | with_reducible refine below_grow ?_ _ | with_reducible refine below_drewN ?_ _ | with_reducible refine below_drew ?_ | with_reducible refine below_setCell ?_ (by first | (dsimp only; omega) | (simp; done) | (simp; omega)) _)))⟩
        case measure => simp [intOf]; omega
      | true =>
        rw [hx, Bool.true_and] at HB
        rw [← HB.out] at hkb
        go_wp2
        go_roundw
        case rel => exact ⟨k + 1, by omega, by simp, by rw [HT.out, List.map_take], by go_num, HU.out.below (by (repeat (first | exact Below.refl _ _ | assumption | with_reducible refine below_alloc ?_ _ | with_reducible refine below_grow ?_ _ | with_reducible refine below_drewN ?_ _ | with_reducible refine below_drew ?_ | with_reducible refine below_setCell ?_ (by first | (dsimp only; omega) | (simp; done) | (simp; omega)) _))), below_then hb (by (repeat (first | exact Below.refl _ _ | assumption | with_reducible refine below_alloc ?_ _ | with_reducible refine below_grow ?_ _ | with_reducible refine below_drewN ?_ _ | with_reducible refine below_drew ?_ | with_reducible refine below_setCell ?_ (by first | (dsimp only; omega) | (simp; done) | (simp; omega)) _)))⟩
        case measure => simp [intOf]; omega
    · have hk2 : k = (parse p).length := by omega
      subst hk2
      simp only [List.take_length]
      have d0 := no (Nat.lt_irrefl (parse p).length)
      clear hkl
      cases hx : litB (parse p) with
      | false =>
        have ht : litT (parse p) = [] := by unfold litT; rw [hx, if_neg (by simp)]
        rw [hx, ht] at HLT
        go_wp2_with (first
          | (go_at_call 41; refine (HLT.out _ (HM.out.below hb)).mono ?_; rintro e w2 ⟨rfl, hb2⟩; have HB2 := Lib.hid (below_then hb hb2); clear hb2))
        go_ret
        exact ⟨rfl, HB2.out⟩
      | true =>
        have ht : litT (parse p) = (parse p).map At.byt := by unfold litT; rw [hx, if_pos rfl]
        have hg : gm (parse p) s = ((parse p).map At.byt == s) := by rw [bytes_of hx, gm_bytes, ← bytes_of hx]
        have hgc : gm (parse p) s = (s == (parse p).map At.byt) := by rw [hg, Bool.beq_comm]
        rw [hx, ht] at HLT
        cases hy : (s == (parse p).map At.byt) with
        | true =>
          rw [hgc, hy] at HMT
          clear hg hgc
          go_wp2_with (first
            | (go_at_call 41; refine (HLT.out _ (HM.out.below hb)).mono ?_; rintro e w2 ⟨rfl, hb2⟩; have HB2 := Lib.hid (below_then hb hb2); clear hb2)
            | (go_at_call 35; (with_reducible refine (HMT.out _ (HM.out.below HB2.out)).mono ?_); rintro e w3 ⟨rfl, hb3⟩; have HB3 := Lib.hid (below_then HB2.out hb3); clear hb3))
          go_ret
          exact ⟨rfl, HB3.out⟩
        | false =>
          rw [hgc, hy] at HMT
          clear hg hgc
          go_wp2_with (first
            | (go_at_call 41; refine (HLT.out _ (HM.out.below hb)).mono ?_; rintro e w2 ⟨rfl, hb2⟩; have HB2 := Lib.hid (below_then hb hb2); clear hb2)
            | (go_at_call 35; (with_reducible refine (HMT.out _ (HM.out.below HB2.out)).mono ?_); rintro e w3 ⟨rfl, hb3⟩; have HB3 := Lib.hid (below_then HB2.out hb3); clear hb3))
          go_ret
          exact ⟨rfl, HB3.out⟩
end Go.Proofs.Yteojepadhonbiaa.patternLiteral
