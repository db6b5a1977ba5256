/-
  The walk of the law HistFinds: it returns true, whatever its arguments. Conditions: the library's variable MaxLen holds some number.
-/
import Derived.Test.YteojepadhonbiaaFind3
import Derived.Test.YteojepadhonbiaaHist8
namespace Go.Proofs.Yteojepadhonbiaa.histFinds
open Go.ChangeShapes Go.WideShapes Go.ChangeAt Go.RowKit Pat
set_option maxRecDepth 100000
theorem adds_mem (ls : List (List UInt8)) : ∀ n, ∀ x ∈ adds (ls.take n), x ∈ ls := by
  intro n
  induction n with
  | zero => intro x hx; simp [adds] at hx
  | succ n ih =>
    intro x hx
    rcases Nat.lt_or_ge n ls.length with h | h
    · rw [adds_take ls n ls[n] (List.getElem?_eq_getElem h)] at hx
      unfold addL at hx
      have hm : ls[n] ∈ ls := List.getElem_mem h
      split at hx
      · split at hx
        · have := List.mem_of_mem_drop hx
          rcases List.mem_append.1 this with q | q
          · exact ih x q
          · simp at q; subst q; exact hm
        · rcases List.mem_append.1 hx with q | q
          · exact ih x q
          · simp at q; subst q; exact hm
      · exact ih x hx
    · rw [List.take_of_length_le (by omega)] at hx
      rw [List.take_of_length_le h] at ih
      exact ih x hx
set_option maxHeartbeats 1000000 in
theorem walk {H : Type} (enc : TypeId × Value → H) (w : World) (base : Nat) (hm : MaxL w) {v0 v1 v2 v3 : Value} {d0 d1 d2 d3 : DataW H} {p0 p1 p2 p3 : List MemPlace}
    (h0 : DataW.Trod enc Try.prog w 0 (fun _ => true) true 31 v0 d0 p0) (k0 : Value.okWide Try.prog w .any base 31 v0)
    (h1 : DataW.Trod enc Try.prog w 0 (fun _ => true) true 9 v1 d1 p1) (k1 : Value.okWide Try.prog w .any base 9 v1)
    (h2 : DataW.Trod enc Try.prog w 0 (fun _ => true) true 3 v2 d2 p2) (k2 : Value.okWide Try.prog w .any base 3 v2)
    (h3 : DataW.Trod enc Try.prog w 0 (fun _ => true) true 3 v3 d3 p3) (k3 : Value.okWide Try.prog w .any base 3 v3) :
    Calls Try.prog 15 #[v0, v1, v2, v3] w fun e w' => e = .returned (.bool true) ∧ Below w.heap.size w w' := by
  obtain ⟨ls, hv, hll⟩ := open_strs h0 k0
  obtain ⟨text, rfl, htx⟩ := open_text h1 k1
  obtain ⟨before, rfl, hbf1, hbf2⟩ := open_num h2 k2
  obtain ⟨how, rfl, hhw1, hhw2⟩ := open_num h3 k3
  clear h0 k0 h1 k1 h2 k2 h3 k3
  have HM := Lib.hid hm
  have HF := Lib.hid fun (g : GrowOf w) => few_any ls v0 20 (grow w g) (hv.below g.2) (by omega)
  have hv' := hv
  obtain ⟨A, c, rfl, hc1, hc2, hn, hA⟩ := hv
  have HA := Lib.hid hA
  have HV := Lib.hid hv'
  clear hA hn hv' hm
  by_cases hfew : fewB ls 20 = false
  · have HF' := Lib.hid fun (g : GrowOf w) => show Calls Try.prog 51 #[.slice A ls.length c, .int .i64 20] (grow w g) fun e w' => e = .returned (.bool false) ∧ Below (grow w g).heap.size (grow w g) w' from (HF.out g).mono fun e w' h => ⟨by rw [h.1, hfew], h.2⟩
    clear HF hfew
    go_enter Try.func15, Try.ntmps15
    go_wp2_with (first | (go_at_call 50; refine (awake_any _).mono ?_; rintro e w' ⟨rfl, hb⟩; obtain ⟨g, rfl⟩ := to_grow hb; clear hb) | (go_at_call 51; refine (HF'.out _).mono ?_; rintro e w' ⟨rfl, hb⟩; obtain ⟨g, rfl⟩ := to_grow hb; clear hb))
    go_ret
    exact ⟨rfl, by (repeat (first | exact Below.refl _ _ | assumption | with_reducible refine below_alloc ?_ _ | with_reducible refine below_grow ?_ _ | with_reducible refine below_drewN ?_ _ | with_reducible refine below_drew ?_ | with_reducible refine below_setCell ?_ (by first | (dsimp only; omega) | (simp; done) | (simp; omega)) _))⟩
  have hfew' : fewB ls 20 = true := by simpa using hfew
  have HF' := Lib.hid fun (g : GrowOf w) => show Calls Try.prog 51 #[.slice A ls.length c, .int .i64 20] (grow w g) fun e w' => e = .returned (.bool true) ∧ Below (grow w g).heap.size (grow w g) w' from (HF.out g).mono fun e w' h => ⟨by rw [h.1, hfew'], h.2⟩
  obtain ⟨hl20, hl40⟩ := few_yes hfew'
  have HL40 := Lib.hid hl40
  clear HF hfew hfew' hl40
  by_cases l1 : 20 < text.length
  · go_enter Try.func15, Try.ntmps15
    go_wp2_with (first | (go_at_call 50; refine (awake_any _).mono ?_; rintro e w' ⟨rfl, hb⟩; obtain ⟨g, rfl⟩ := to_grow hb; clear hb) | (go_at_call 51; refine (HF'.out _).mono ?_; rintro e w' ⟨rfl, hb⟩; obtain ⟨g, rfl⟩ := to_grow hb; clear hb))
    go_ret
    exact ⟨rfl, by (repeat (first | exact Below.refl _ _ | assumption | with_reducible refine below_alloc ?_ _ | with_reducible refine below_grow ?_ _ | with_reducible refine below_drewN ?_ _ | with_reducible refine below_drew ?_ | with_reducible refine below_setCell ?_ (by first | (dsimp only; omega) | (simp; done) | (simp; omega)) _))⟩
  have l1' := no l1
  have l4 : text.length ≤ 20 := by omega
  clear l1 hc2 hll htx
  obtain ⟨i0, hi0, hz00, hz01, hz02⟩ := info_parts info_str
  go_enter Try.func15, Try.ntmps15
  go_wp2_with (first | (go_at_call 50; refine (awake_any _).mono ?_; rintro e w' ⟨rfl, hb⟩; obtain ⟨g, rfl⟩ := to_grow hb; clear hb) | (go_at_call 51; refine (HF'.out _).mono ?_; rintro e w' ⟨rfl, hb⟩; obtain ⟨g, rfl⟩ := to_grow hb; clear hb) | (go_at_call 52; refine (new_ok 50 _ (by omega) (by omega)).mono ?_; rintro e wn ⟨hb, rfl, hh, hbl⟩; have HH := Lib.hid hh; have HB := Lib.hid hbl; clear hh hbl))
  go_loopw [10, 11] (fun x i wr => ∃ (k : Nat) (lv : Value), k ≤ ls.length ∧ i = .int .i64 k ∧ Hid (Both w.heap.size w hb lv x 50 (adds (ls.take k)) (adds (ls.take k)) wr)) (fun _ i _ => ls.length - (intOf i).toNat)
  case atStart =>
    refine ⟨0, .slice none 0 0, by omega, rfl, ?_, Sl.nil _ _ _, (fun j hj => by simp [Value.ownBlock] at hj), ?_⟩
    · have := HH.out
      exact ⟨this.lt, Nat.le_trans (by first | exact le_grow _ _ _ (Nat.le_refl _) | (simp [go_sem])) this.ge, this.c0, this.c1, this.f0, Own.nil _ _ _, this.ne⟩
    · exact Below.trans (by (repeat (first | exact Below.refl _ _ | assumption | with_reducible refine below_alloc ?_ _ | with_reducible refine below_grow ?_ _ | with_reducible refine below_drewN ?_ _ | with_reducible refine below_drew ?_ | with_reducible refine below_setCell ?_ (by first | (dsimp only; omega) | (simp; done) | (simp; omega)) _))) (HB.out.mono (by first | exact le_grow _ _ _ (Nat.le_refl _) | (simp [go_sem])))
  case round =>
    obtain ⟨k, lv, hk, rfl, Hb⟩ := hrel
    clear HH HB
    by_cases hlt : k < ls.length
    · obtain ⟨line, hx⟩ := get_some hlt
      obtain ⟨b, off, rfl, e0⟩ := Sl.getS HA.out Hb.out.b k line hx
      have HT := Lib.hid (adds_take ls k line hx)
      have HL := Lib.hid (adds_le ls k)
      have HX := Lib.hid hx
      clear hx
      go_wp2_with (first
        | (go_at_call 53; refine (add_any _ _ _ _ 50 _ line Hb.out.h (by have := HL.out; omega) (by omega) (by omega)).mono ?_; rintro e w2 ⟨rfl, ⟨lv2, hh2, hj2⟩, hk2⟩; have h2 := Hb.out.add (Nat.le_refl _) hh2 hj2 hk2; obtain ⟨_, _, e2, e0'⟩ := Sl.getS HA.out h2.b k line HX.out; cases e2; have H2 := Lib.hid h2; clear hh2 hj2 hk2 h2)
        | (go_at_call 54; refine (refAdd_any _ _ 50 _ line H2.out.sl (by have := HL.out; omega) (by omega)).mono ?_; rintro e w1 ⟨⟨u, rfl, hu, huj⟩, hb1⟩; have H3 := Lib.hid (H2.out.ref (Nat.le_refl _) hb1 hu huj); clear hu hb1 huj))
      go_roundw
      case rel => exact ⟨k + 1, lv2, by omega, by go_num, by show Both _ _ _ _ _ _ _ _ _; rw [HT.out]; exact H3.out⟩
      case measure => simp [intOf]; omega
    · have hk' : k = ls.length := by omega
      have h1 := Hb.out
      have hmem := adds_mem ls ls.length
      rw [hk', List.take_length] at h1
      rw [List.take_length] at hmem
      have hal : (adds ls).length ≤ 20 := by have := adds_le ls ls.length; rw [List.take_length] at this; omega
      have Hb1 := Lib.hid h1
      have HLL := Lib.hid (show ∀ x ∈ adds ls, x.length ≤ 1073741824 from fun x hx => by have := HL40.out x (hmem x hx); omega)
      clear h1 Hb hi0 hz00 hz01 hz02 hmem
      have d0 := no hlt
      clear hk' hlt
      generalize adds ls = xs at *
      have HFD := Lib.hid fun W lv hm hh => find_any W w.heap.size hb lv 50 xs text before how hm (by omega) HLL.out (by omega) hh
      have HRF := Lib.hid fun W v hv => refFind_any xs v text before how W hv (by omega) HLL.out (by omega)
      rw [show min xs.length before.toNat = min before.toNat xs.length by omega] at HRF
      unfold FindP at HFD
      generalize lastN (isAt xs text how) (min before.toNat xs.length) = r at *
      by_cases hr : r < 0
      · rw [if_pos hr] at HFD
        go_wp2_with (first
          | (go_at_call 55; refine (HFD.out _ _ (HM.out.below Hb1.out.b) Hb1.out.h).mono ?_; rintro e w2 ⟨rfl, hb2⟩; have HS2 := Lib.hid (Hb1.out.sl.below hb2); have HB2 := Lib.hid (below_then Hb1.out.b hb2); clear hb2)
          | (go_at_call 56; refine (HRF.out _ _ HS2.out).mono ?_; rintro e w3 ⟨rfl, hb3⟩; have HB3 := Lib.hid (below_then HB2.out hb3); clear hb3))
        go_ret
        exact ⟨rfl, HB3.out⟩
      · rw [if_neg hr] at HFD
        have d1 := no hr
        go_wp2_with (first
          | (go_at_call 55; refine (HFD.out _ _ (HM.out.below Hb1.out.b) Hb1.out.h).mono ?_; rintro e w2 ⟨rfl, hb2⟩; have HS2 := Lib.hid (Hb1.out.sl.below hb2); have HB2 := Lib.hid (below_then Hb1.out.b hb2); clear hb2)
          | (go_at_call 56; refine (HRF.out _ _ HS2.out).mono ?_; rintro e w3 ⟨rfl, hb3⟩; have HB3 := Lib.hid (below_then HB2.out hb3); clear hb3))
        go_ret
        exact ⟨rfl, HB3.out⟩
end Go.Proofs.Yteojepadhonbiaa.histFinds
