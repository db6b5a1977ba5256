/-
  The walk of the law HistThere: it returns true, whatever its arguments. Conditions: none (arguments as the row reads them).
-/
import Derived.Test.YtkinjjgaecbogaaHist8
namespace Go.Proofs.Ytkinjjgaecbogaa.histThere
open Go.ChangeShapes Go.WideShapes Go.ChangeAt Go.RowKit
set_option maxRecDepth 100000
/-- A history in memory, behind what was there. -/
structure Sole (b0 : Nat) (w : World) (hb : Nat) (lv : Value) (xs : List (List UInt8)) (wr : World) : Prop where
  h : HistAt wr b0 hb lv 50 xs
  b : Below b0 w wr
theorem Sole.add {b0 hb : Nat} {w w0 w1 : World} {lv lv1 : Value} {xs zs : List (List UInt8)} (h : Sole b0 w hb lv xs w0) (hw : b0 ≤ w.heap.size) (hh : HistAt w1 b0 hb lv1 50 zs)
    (hk : Keeps (fun k => k = hb ∨ (lv.ownBlock = some k ∧ b0 ≤ k)) w0 w1) : Sole b0 w hb lv1 zs w1 :=
  ⟨hh, h.b.trans (hk.below (by have := h.b.size; omega) fun k hF => by
    rcases hF with e | e
    · have := h.h.ge; omega
    · exact e.2)⟩
/-- A walk in memory, and the slice of all lines. -/
structure St (W1 : World) (b2 pb : Nat) (lv all : Value) (n : Nat) (xs ys : List (List UInt8)) (at_ : Nat) (wr : World) : Prop where
  wk : WalkAt wr W1.heap.size pb lv ys at_
  own : Own wr b2 1 all n (xs.flatMap strC)
  b : Below W1.heap.size W1 wr
  le : W1.heap.size ≤ b2
  pb : pb < b2
  lv : ∀ k, lv.ownBlock = some k → k < b2
theorem St.step {W1 w0 w1 : World} {b2 pb n at_ q : Nat} {lv all : Value} {xs ys zs : List (List UInt8)} (h : St W1 b2 pb lv all n xs ys at_ w0) (hwk : WalkAt w1 W1.heap.size pb lv zs q) (hz : zs = ys)
    (hk : Keeps (fun k => k = pb ∨ (lv.ownBlock = some k ∧ W1.heap.size ≤ k)) w0 w1) : St W1 b2 pb lv all n xs ys q w1 := by
  subst hz
  refine ⟨hwk, ?_, h.b.trans (hk.below h.b.size fun k hF => ?_), h.le, h.pb, h.lv⟩
  · rcases h.own.2 with ⟨e0, e | ⟨g, off, e, hg⟩⟩ | ⟨g, off, c, e, h1, _⟩
    · exact ⟨h.own.1, .inl ⟨e0, .inl e⟩⟩
    · exact ⟨h.own.1, .inl ⟨e0, .inr ⟨g, off, e, Nat.lt_of_lt_of_le hg hk.size⟩⟩⟩
    · refine h.own.keeps hk fun j hj _ hF => ?_
      rw [e] at hj
      simp [Value.ownBlock] at hj
      rcases hF with e | e
      · have := h.pb; omega
      · have := h.lv _ e.1; omega
  · rcases hF with e | e
    · have := h.wk.ge; omega
    · exact e.2
theorem set_same {ys : List (List UInt8)} {k : Nat} {t : List UInt8} (h : ys[k]? = some t) : ys.set k t = ys := by
  obtain ⟨h1, h2⟩ := List.getElem?_eq_some_iff.1 h
  rw [← h2]; exact List.set_getElem_self h1
theorem Own.form0 {w : World} {b0 sz n : Nat} {v : Value} {xs : List Value} (h : Own w b0 sz v n xs) : ∃ A c, v = .slice A n c ∧ (0 < n → ∃ g off, A = some ⟨g, off, none⟩) := by
  rcases h.2 with ⟨h0, rfl | ⟨g, off, rfl, hg⟩⟩ | ⟨g, off, c, e, h1, _⟩
  · exact ⟨_, _, by rw [h0], fun h => by omega⟩
  · exact ⟨_, _, by rw [h0], fun _ => ⟨_, _, rfl⟩⟩
  · exact ⟨_, _, e, fun _ => ⟨_, _, rfl⟩⟩
theorem there_get {ls : List (List UInt8)} {now : List UInt8} {k : Nat} {y : List UInt8} (h : ls[k]? = some y) : (ls ++ [now])[k]? = some y := by
  have := (List.getElem?_eq_some_iff.1 h).1
  rw [List.getElem?_append_left this]; exact h
set_option maxHeartbeats 1000000 in
theorem walk {H : Type} (enc : TypeId × Value → H) (w : World) (base : Nat) {v0 v1 : Value} {d0 d1 : DataW H} {p0 p1 : List MemPlace}
    (h0 : DataW.Trod enc Try.prog w 0 (fun _ => true) true 22 v0 d0 p0) (k0 : Value.okWide Try.prog w .any base 22 v0)
    (h1 : DataW.Trod enc Try.prog w 0 (fun _ => true) true 9 v1 d1 p1) (k1 : Value.okWide Try.prog w .any base 9 v1) :
    Calls Try.prog 5 #[v0, v1] w fun e w' => e = .returned (.bool true) ∧ Below w.heap.size w w' := by
  obtain ⟨ls, hv, hll⟩ := open_strs h0 k0
  obtain ⟨now, rfl, hnow⟩ := open_text h1 k1
  clear h0 k0 h1 k1
  have HF := Lib.hid fun (g : GrowOf w) => few_any ls v0 20 (grow w g) (hv.below g.2) (by omega)
  obtain ⟨A, c, rfl, hc1, hc2, hn, hA⟩ := hv
  have HA := Lib.hid hA
  clear hA hn
  by_cases hfew : fewB ls 20 = false
  · have HF' := Lib.hid fun (g : GrowOf w) => show Calls Try.prog 17 #[.slice A ls.length c, .int .i64 20] (grow w g) fun e w' => e = .returned (.bool false) ∧ Below (grow w g).heap.size (grow w g) w' from (HF.out g).mono fun e w' h => ⟨by rw [h.1, hfew], h.2⟩
    clear HF hfew
    go_enter Try.func5, Try.ntmps5
    go_wp2_with (first | (go_at_call 16; refine (awake_any _).mono ?_; rintro e w' ⟨rfl, hb⟩; obtain ⟨g, rfl⟩ := to_grow hb; clear hb) | (go_at_call 17; refine (HF'.out _).mono ?_; rintro e w' ⟨rfl, hb⟩; obtain ⟨g, rfl⟩ := to_grow hb; clear hb))
    go_ret
    exact ⟨rfl, by (repeat (first | exact Below.refl _ _ | assumption | with_reducible refine below_alloc ?_ _ | with_reducible refine below_grow ?_ _ | with_reducible refine below_drewN ?_ _ | with_reducible refine below_drew ?_ | with_reducible refine below_setCell ?_ (by first | (dsimp only; omega) | (simp; done) | (simp; omega)) _))⟩
  have hfew' : fewB ls 20 = true := by simpa using hfew
  have HF' := Lib.hid fun (g : GrowOf w) => show Calls Try.prog 17 #[.slice A ls.length c, .int .i64 20] (grow w g) fun e w' => e = .returned (.bool true) ∧ Below (grow w g).heap.size (grow w g) w' from (HF.out g).mono fun e w' h => ⟨by rw [h.1, hfew'], h.2⟩
  obtain ⟨hl20, _⟩ := few_yes hfew'
  clear HF hfew hfew'
  by_cases l1 : 40 < now.length
  · go_enter Try.func5, Try.ntmps5
    go_wp2_with (first | (go_at_call 16; refine (awake_any _).mono ?_; rintro e w' ⟨rfl, hb⟩; obtain ⟨g, rfl⟩ := to_grow hb; clear hb) | (go_at_call 17; refine (HF'.out _).mono ?_; rintro e w' ⟨rfl, hb⟩; obtain ⟨g, rfl⟩ := to_grow hb; clear hb))
    go_ret
    exact ⟨rfl, by (repeat (first | exact Below.refl _ _ | assumption | with_reducible refine below_alloc ?_ _ | with_reducible refine below_grow ?_ _ | with_reducible refine below_drewN ?_ _ | with_reducible refine below_drew ?_ | with_reducible refine below_setCell ?_ (by first | (dsimp only; omega) | (simp; done) | (simp; omega)) _))⟩
  have l4 : now.length ≤ 40 := by omega
  clear l1 hc2 hll hnow
  go_enter Try.func5, Try.ntmps5
  go_wp2_with (first | (go_at_call 16; refine (awake_any _).mono ?_; rintro e w' ⟨rfl, hb⟩; obtain ⟨g, rfl⟩ := to_grow hb; clear hb) | (go_at_call 17; refine (HF'.out _).mono ?_; rintro e w' ⟨rfl, hb⟩; obtain ⟨g, rfl⟩ := to_grow hb; clear hb) | (go_at_call 18; refine (new_ok 50 _ (by omega) (by omega)).mono ?_; rintro e wn ⟨hb, rfl, hh, hbl⟩; have HH := Lib.hid hh; have HB := Lib.hid hbl; clear hh hbl))
  go_loopw [6] (fun i wr => ∃ (k : Nat) (lv : Value), k ≤ ls.length ∧ i = .int .i64 k ∧ Hid (Sole w.heap.size w hb lv (adds (ls.take k)) wr)) (fun i _ => ls.length - (intOf i).toNat)
  case atStart =>
    refine ⟨0, .slice none 0 0, by omega, rfl, ?_, ?_⟩
    · have := HH.out
      exact ⟨this.lt, Nat.le_trans (by first | exact le_grow _ _ _ (Nat.le_refl _) | (simp [go_sem])) this.ge, this.c0, this.c1, this.f0, Own.nil _ _ _, this.ne⟩
    · exact Below.trans (by (repeat (first | exact Below.refl _ _ | assumption | with_reducible refine below_alloc ?_ _ | with_reducible refine below_grow ?_ _ | with_reducible refine below_drewN ?_ _ | with_reducible refine below_drew ?_ | with_reducible refine below_setCell ?_ (by first | (dsimp only; omega) | (simp; done) | (simp; omega)) _))) (HB.out.mono (by first | exact le_grow _ _ _ (Nat.le_refl _) | (simp [go_sem])))
  case round =>
    obtain ⟨k, lv, hk, rfl, Hb⟩ := hrel
    clear HH HB
    by_cases hlt : k < ls.length
    · obtain ⟨line, hx⟩ := get_some hlt
      obtain ⟨b, off, rfl, e0⟩ := Sl.getS HA.out Hb.out.b k line hx
      have HT := Lib.hid (adds_take ls k line hx)
      have HL := Lib.hid (adds_le ls k)
      clear hx
      go_wp2_with (go_at_call 20; refine (add_any _ _ _ _ 50 _ line Hb.out.h (by have := HL.out; omega) (by omega) (by omega)).mono ?_; rintro e w2 ⟨rfl, ⟨lv2, hh2, hj2⟩, hk2⟩; have H2 := Lib.hid (Hb.out.add (Nat.le_refl _) hh2 hk2); clear hh2 hj2 hk2)
      go_roundw
      case rel => exact ⟨k + 1, lv2, by omega, by go_num, by show Sole _ _ _ _ _ _; rw [HT.out]; exact H2.out⟩
      case measure => simp [intOf]; omega
    · have hk' : k = ls.length := by omega
      have h1 := Hb.out
      rw [hk', List.take_length] at h1
      have hal : (adds ls).length ≤ 20 := by have := adds_le ls ls.length; rw [List.take_length] at this; omega
      have Hb1 := Lib.hid h1
      have HK := Lib.hid hk'
      clear hk' h1 Hb
      generalize adds ls = xs at *
      obtain ⟨n, hn⟩ : ∃ n, n = xs.length := ⟨_, rfl⟩
      rw [← hn] at hal
      have HN := Lib.hid hn
      clear hn
      go_wp2_with (first
        | (go_at_call 23; refine (walk_any _ _ _ _ _ xs now Hb1.out.h (by have := HN.out; omega)).mono ?_; rintro e w1 ⟨pb, lv1, rfl, hwk, hb1⟩; have HW1 := Lib.hid hwk; have HB1 := Lib.hid hb1; clear hwk hb1)
        | (go_at_call 22; refine (lines_any _ _ _ _ _ xs (Hb1.out.h.below HB1.out) (by have := HN.out; omega)).mono ?_; rintro e w2 ⟨v2, rfl, ho2, hb2⟩; rw [← HN.out] at ho2; obtain ⟨A2, c2, rfl, hA2⟩ := Own.form0 ho2; have HO2 := Lib.hid ho2; have HB2 := Lib.hid hb2; have HA2 := Lib.hid hA2; clear ho2 hb2 hA2))
      obtain ⟨wo, rfl⟩ : ∃ wo : World, wo = wr := ⟨_, rfl⟩
      go_loopw [9, 10, 11, 12] (fun t i _ _ wr => ∃ (m : Nat) (y : List UInt8), m ≤ n ∧ i = .int .i64 ((m : Int) - 1) ∧ t = .string (B y) ∧ Hid ((xs ++ [now])[m]? = some y) ∧ Hid (St wo w1.heap.size pb lv1 (.slice A2 n c2) n xs (xs ++ [now]) m wr)) (fun _ i _ _ _ => (intOf i + 1).toNat)
      case atStart =>
        refine ⟨n, now, Nat.le_refl _, rfl, rfl, by show _ = _; rw [HN.out]; simp, ⟨by rw [HN.out]; exact HW1.out.below HB2.out, HO2.out, HB1.out.trans (HB2.out.mono HB1.out.size), HB1.out.size, HW1.out.lt, fun k hk => HW1.out.own.lt k hk⟩⟩
      case round =>
        obtain ⟨m, y, hm, hi, rfl, HY, HS⟩ := hrel
        rcases Nat.eq_zero_or_pos m with rfl | hpos
        · subst hi
          go_wp2_with (go_at_call 25; refine (up_any _ _ _ _ (xs ++ [now]) 0 y HS.out.wk (by simp only [List.length_append, List.length_singleton]; have := HN.out; omega) (by simp only [List.length_append, List.length_singleton]; have := HN.out; omega)).mono ?_; rintro e w4 hsp; obtain ⟨he, hwk⟩ := hsp.no (by simp only [List.length_append, List.length_singleton]; have := HN.out; omega); subst he; have hst := HS.out.step hwk (set_same HY.out) hsp.k; have HST := Lib.hid hst; clear hst hwk hsp)
          obtain ⟨wp, rfl⟩ : ∃ wp : World, wp = w4 := ⟨_, rfl⟩
          clear HS
          go_loopw [9, 15, 16, 17] (fun t i _ _ wr => ∃ (k : Nat) (y : List UInt8), k ≤ n ∧ i = .int .i64 k ∧ t = .string (B y) ∧ Hid ((xs ++ [now])[k]? = some y) ∧ Hid (St wo w1.heap.size pb lv1 (.slice A2 n c2) n xs (xs ++ [now]) k wr)) (fun _ i _ _ _ => n - (intOf i).toNat)
          case atStart => exact ⟨0, y, by omega, rfl, rfl, HY.out, HST.out⟩
          case round =>
            clear HY HST
            obtain ⟨k, y, hk, rfl, rfl, HY, HS⟩ := hrel
            by_cases hlt : k < n
            · obtain ⟨z, hz⟩ := get_some (xs := xs ++ [now]) (k := k + 1) (by simp only [List.length_append, List.length_singleton]; have := HN.out; omega)
              have HZ := Lib.hid hz
              clear hz
              go_wp2_with (go_at_call 26; refine (down_any _ _ _ _ (xs ++ [now]) k y HS.out.wk (by simp only [List.length_append, List.length_singleton]; have := HN.out; omega) (by simp only [List.length_append, List.length_singleton]; have := HN.out; omega)).mono ?_; rintro e w4 hsp; obtain ⟨he, hwk⟩ := hsp.yes (k + 1) (by omega) (by simp only [List.length_append, List.length_singleton]; have := HN.out; omega); rw [set_same HY.out, HZ.out] at he; simp only [Option.getD_some] at he; subst he; have hst := HS.out.step hwk (set_same HY.out) hsp.k; have HST := Lib.hid hst; skip; clear hst hwk hsp)
              go_roundw
              case rel => exact ⟨k + 1, z, by omega, by go_num, rfl, HZ.out, HST.out⟩
              case measure => simp [intOf]; omega
            · have hkn : k = n := by omega
              have hyn : y = now := by have := HY.out; rw [hkn, HN.out] at this; simpa using this.symm
              subst hyn
              have n1 : (n : Int) ≤ (k : Int) := by omega
              have hkt : ((k : Int) == (n : Int)) = true := by rw [beq_iff_eq]; omega
              have Hbw := Lib.hid (Hb1.out.b.trans (HS.out.b.mono Hb1.out.b.size))
              clear hkn
              go_wp2_with (first | (go_at_call 26; refine (down_any _ _ _ _ (xs ++ [y]) k y HS.out.wk (by simp only [List.length_append, List.length_singleton]; have := HN.out; omega) (by simp only [List.length_append, List.length_singleton]; have := HN.out; omega)).mono ?_; rintro e w4 hsp; obtain ⟨he, hwk⟩ := hsp.no (by simp only [List.length_append, List.length_singleton]; have := HN.out; omega); subst he; have hst := HS.out.step hwk (set_same HY.out) hsp.k; have HST := Lib.hid hst; clear hst hwk hsp) | (go_at_call 24; refine (at_any _ _ _ _ _ _ HST.out.wk).mono ?_; rintro e w' ⟨rfl, rfl⟩))
              go_ret
              exact ⟨rfl, Hb1.out.b.trans (HST.out.b.mono Hb1.out.b.size)⟩
        · obtain ⟨q, rfl⟩ : ∃ q, m = q + 1 := ⟨m - 1, by omega⟩
          rw [show ((q + 1 : Nat) : Int) - 1 = (q : Int) by omega] at hi
          subst hi
          obtain ⟨z, hz⟩ := get_some (xs := xs) (k := q) (by have := HN.out; omega)
          have HZ0 := Lib.hid hz
          have HZ := Lib.hid (there_get (now := now) hz)
          obtain ⟨g2, o2, rfl⟩ := HA2.out (by omega)
          clear hz
          go_wp2_with (go_at_call 25; refine (up_any _ _ _ _ (xs ++ [now]) (q + 1) y HS.out.wk (by simp only [List.length_append, List.length_singleton]; have := HN.out; omega) (by simp only [List.length_append, List.length_singleton]; have := HN.out; omega)).mono ?_; rintro e w4 hsp; obtain ⟨he, hwk⟩ := hsp.yes q (by omega) (by simp only [List.length_append, List.length_singleton]; have := HN.out; omega); rw [set_same HY.out, HZ.out] at he; simp only [Option.getD_some] at he; subst he; have hst := HS.out.step hwk (set_same HY.out) hsp.k; have HST := Lib.hid hst; obtain ⟨_, y1, y2, _⟩ := hst.own.cellOk q (by omega); rw [HZ0.out] at y1; cases y1; clear hst hwk hsp)
          go_roundw
          case rel => exact ⟨q, z, by omega, by first | rfl | go_num, rfl, HZ.out, HST.out⟩
          case measure => first | (simp [intOf]; done) | (simp [intOf]; omega)
end Go.Proofs.Ytkinjjgaecbogaa.histThere
