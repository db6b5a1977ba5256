/-
  The walk of the law HistWalks: it returns true, whatever its arguments. Conditions: none (arguments as the row reads them).
-/
import Derived.Test.YtkinjjgaecbogaaHist8
namespace Go.Proofs.Ytkinjjgaecbogaa.histWalks
open Go.ChangeShapes Go.WideShapes Go.ChangeAt Go.RowKit
set_option maxRecDepth 100000
/-- The struct quillwortlaw30.Step. -/
structure WStep where
  up : Bool
  now : List UInt8
  deriving DecidableEq
def WStep.cells (x : WStep) : List Value := [.bool x.up, .string (B x.now)]
def WStep.Ok (x : WStep) : Prop := x.now.length ≤ 9223372036854775807
theorem wStep_cells : Try.prog.cellsOf 37 = 2 := by kernel_rfl
theorem WStep.len (x : WStep) : x.cells.length = 2 := rfl
theorem wStep_dec {H : Type} {enc : TypeId × Value → H} {w : World} {fuel : Nat} {cs : List Value} {d : DataW H × List MemPlace}
    (h : DataW.trod enc Try.prog w 0 (fun _ => true) true fuel 37 cs = some d) : ∃ x : WStep, cs = x.cells ∧ x.Ok := by
  obtain ⟨ys, n, _, _, hl, hyl, hf⟩ := DataW.trod_struct Try.underlying37 h
  rw [wStep_cells] at hl
  match cs, hl with
  | [c0, c1], _ =>
    have k0 : Try.prog.cellsOf 4 = 1 := by kernel_rfl
    have k1 : Try.prog.cellsOf 9 = 1 := by kernel_rfl
    have h0 := hf 0 _ rfl
    have h1 := hf 1 _ rfl
    simp [k0, k1] at h0 h1
    have hy0 : ys[0]? = some (ys[0]'(by rw [hyl]; decide)) := List.getElem?_eq_getElem _
    obtain ⟨q0, e0, _⟩ := DataW.trod_bool Try.underlying4 (h0.trans hy0)
    have hy1 : ys[1]? = some (ys[1]'(by rw [hyl]; decide)) := List.getElem?_eq_getElem _
    obtain ⟨s1, e1, _, w1⟩ := DataW.trod_string Try.underlying9 (h1.trans hy1)
    obtain ⟨a1, rfl⟩ := B_all s1
    rw [B_size] at w1
    simp at e0
    simp at e1
    subst e0
    subst e1
    exact ⟨⟨q0, a1⟩, rfl, w1⟩

/-- A walk in memory, and a slice that reads as its texts. -/
structure St (W1 : World) (pb : Nat) (lv x : Value) (ys : List (List UInt8)) (at_ : Nat) (wr : World) : Prop where
  wk : WalkAt wr W1.heap.size pb lv ys at_
  sl : Sl wr strC 1 x ys
  b : Below W1.heap.size W1 wr
theorem St.step {W1 wr w3 w4 : World} {pb : Nat} {lv x y : Value} {ys zs : List (List UInt8)} {at_ q n : Nat} (h : St W1 pb lv x ys at_ wr) (hb : Below wr.heap.size wr w3) (ho : Own w3 wr.heap.size 1 y n (zs.flatMap strC)) (hn : zs.length = n)
    (hy : 0 < n) (hwk : WalkAt w4 W1.heap.size pb lv zs q) (hk : Keeps (fun k => k = pb ∨ (lv.ownBlock = some k ∧ W1.heap.size ≤ k)) w3 w4) : St W1 pb lv y zs q w4 ∧ Own w4 wr.heap.size 1 y n (zs.flatMap strC) := by
  have ho4 : Own w4 wr.heap.size 1 y n (zs.flatMap strC) := by
    refine ho.keeps hk fun j hj _ hF => ?_
    obtain ⟨g, off, c, rfl, g1, g2, _⟩ := ho.form' hy
    simp [Value.ownBlock] at hj
    subst hj
    rcases hF with e | e
    · have := h.wk.lt; omega
    · have := h.wk.own.lt _ e.1; omega
  refine ⟨⟨hwk, ho4.sl strC_len hn, h.b.trans ((hb.mono h.b.size).trans (hk.below (Nat.le_trans h.b.size hb.size) fun k hF => ?_))⟩, ho4⟩
  rcases hF with e | e
  · have := h.wk.ge; omega
  · exact e.2
theorem set_some (ys : List (List UInt8)) (a q : Nat) (now : List UInt8) (h : q < ys.length) : ∃ z, (ys.set a now)[q]? = some z := ⟨_, List.getElem?_eq_getElem (by simpa using h)⟩
set_option maxHeartbeats 1000000 in
theorem walk {H : Type} (enc : TypeId × Value → H) (w : World) (base : Nat) {v0 v1 v2 : Value} {d0 d1 d2 : DataW H} {p0 p1 p2 : List MemPlace}
    (h0 : DataW.Trod enc Try.prog w 0 (fun _ => true) true 22 v0 d0 p0) (k0 : Value.okWide Try.prog w .any base 22 v0)
    (h1 : DataW.Trod enc Try.prog w 0 (fun _ => true) true 9 v1 d1 p1) (k1 : Value.okWide Try.prog w .any base 9 v1)
    (h2 : DataW.Trod enc Try.prog w 0 (fun _ => true) true 33 v2 d2 p2) (k2 : Value.okWide Try.prog w .any base 33 v2) :
    Calls Try.prog 4 #[v0, v1, v2] w fun e w' => e = .returned (.bool true) ∧ Below w.heap.size w w' := by
  obtain ⟨ls, hv, hll⟩ := open_strs h0 k0
  obtain ⟨now, rfl, hnow⟩ := open_text h1 k1
  obtain ⟨st, hs, hok, hsl⟩ := open_sl WStep.cells WStep.Ok Try.underlying33 wStep_cells (by omega) wStep_dec h2 k2
  clear h0 k0 h1 k1 h2 k2
  have HF := Lib.hid fun (g : GrowOf w) => few_any ls v0 10 (grow w g) (hv.below g.2) (by omega)
  have hv' := hv
  have hs' := hs
  obtain ⟨A, c, rfl, hc1, hc2, hn, hA⟩ := hv
  obtain ⟨A2, cs, rfl, hs1, hs2, hsn, hsA⟩ := hs
  have HA := Lib.hid hA
  have HV := Lib.hid hv'
  have HSA := Lib.hid hsA
  have HSO := Lib.hid hok
  clear hA hn hsA hsn hok hv' hs'
  by_cases hfew : fewB ls 10 = false
  · have HF' := Lib.hid fun (g : GrowOf w) => show Calls Try.prog 17 #[.slice A ls.length c, .int .i64 10] (grow w g) fun e w' => e = .returned (.bool false) ∧ Below (grow w g).heap.size (grow w g) w' from (HF.out g).mono fun e w' h => ⟨by rw [h.1, hfew], h.2⟩
    clear HF hfew
    go_enter Try.func4, Try.ntmps4
    go_wp2_with (first | (go_at_call 16; refine (awake_any _).mono ?_; rintro e w' ⟨rfl, hb⟩; obtain ⟨g, rfl⟩ := to_grow hb; clear hb) | (go_at_call 17; refine (HF'.out _).mono ?_; rintro e w' ⟨rfl, hb⟩; obtain ⟨g, rfl⟩ := to_grow hb; clear hb))
    go_ret
    exact ⟨rfl, by (repeat (first | exact Below.refl _ _ | assumption | with_reducible refine below_alloc ?_ _ | with_reducible refine below_grow ?_ _ | with_reducible refine below_drewN ?_ _ | with_reducible refine below_drew ?_ | with_reducible refine below_setCell ?_ (by first | (dsimp only; omega) | (simp; done) | (simp; omega)) _))⟩
  have hfew' : fewB ls 10 = true := by simpa using hfew
  have HF' := Lib.hid fun (g : GrowOf w) => show Calls Try.prog 17 #[.slice A ls.length c, .int .i64 10] (grow w g) fun e w' => e = .returned (.bool true) ∧ Below (grow w g).heap.size (grow w g) w' from (HF.out g).mono fun e w' h => ⟨by rw [h.1, hfew'], h.2⟩
  obtain ⟨hl10, _⟩ := few_yes hfew'
  clear HF hfew hfew'
  by_cases l1 : 40 < now.length
  · go_enter Try.func4, Try.ntmps4
    go_wp2_with (first | (go_at_call 16; refine (awake_any _).mono ?_; rintro e w' ⟨rfl, hb⟩; obtain ⟨g, rfl⟩ := to_grow hb; clear hb) | (go_at_call 17; refine (HF'.out _).mono ?_; rintro e w' ⟨rfl, hb⟩; obtain ⟨g, rfl⟩ := to_grow hb; clear hb))
    go_ret
    exact ⟨rfl, by (repeat (first | exact Below.refl _ _ | assumption | with_reducible refine below_alloc ?_ _ | with_reducible refine below_grow ?_ _ | with_reducible refine below_drewN ?_ _ | with_reducible refine below_drew ?_ | with_reducible refine below_setCell ?_ (by first | (dsimp only; omega) | (simp; done) | (simp; omega)) _))⟩
  by_cases l2 : 30 < st.length
  · have l1' := no l1
    go_enter Try.func4, Try.ntmps4
    go_wp2_with (first | (go_at_call 16; refine (awake_any _).mono ?_; rintro e w' ⟨rfl, hb⟩; obtain ⟨g, rfl⟩ := to_grow hb; clear hb) | (go_at_call 17; refine (HF'.out _).mono ?_; rintro e w' ⟨rfl, hb⟩; obtain ⟨g, rfl⟩ := to_grow hb; clear hb))
    go_ret
    exact ⟨rfl, by (repeat (first | exact Below.refl _ _ | assumption | with_reducible refine below_alloc ?_ _ | with_reducible refine below_grow ?_ _ | with_reducible refine below_drewN ?_ _ | with_reducible refine below_drew ?_ | with_reducible refine below_setCell ?_ (by first | (dsimp only; omega) | (simp; done) | (simp; omega)) _))⟩
  have l1' := no l1
  have l2' := no l2
  have l3 : st.length ≤ 30 := by omega
  have l4 : now.length ≤ 40 := by omega
  clear l1 l2 hc2 hll hnow hs2 hsl
  obtain ⟨i0, hi0, hz00, hz01, hz02⟩ := info_parts info_str
  go_enter Try.func4, Try.ntmps4
  go_wp2_with (first | (go_at_call 16; refine (awake_any _).mono ?_; rintro e w' ⟨rfl, hb⟩; obtain ⟨g, rfl⟩ := to_grow hb; clear hb) | (go_at_call 17; refine (HF'.out _).mono ?_; rintro e w' ⟨rfl, hb⟩; obtain ⟨g, rfl⟩ := to_grow hb; clear hb) | (go_at_call 18; refine (new_ok 50 _ (by omega) (by omega)).mono ?_; rintro e wn ⟨hb, rfl, hh, hbl⟩; have HH := Lib.hid hh; have HB := Lib.hid hbl; clear hh hbl))
  go_loopw [8, 9] (fun x i wr => ∃ (k : Nat) (lv : Value), k ≤ ls.length ∧ i = .int .i64 k ∧ Hid (Both w.heap.size w hb lv x 50 (adds (ls.take k)) (adds (ls.take k)) wr)) (fun _ i _ => ls.length - (intOf i).toNat)
  case atStart =>
    refine ⟨0, .slice none 0 0, by omega, rfl, ?_, Sl.nil _ _ _, (fun j hj => by simp [Value.ownBlock] at hj), ?_⟩
    · have := HH.out
      exact ⟨this.lt, Nat.le_trans (by first | exact le_grow _ _ _ (Nat.le_refl _) | (simp [go_sem])) this.ge, this.c0, this.c1, this.f0, Own.nil _ _ _, this.ne⟩
    · exact Below.trans (by (repeat (first | exact Below.refl _ _ | assumption | with_reducible refine below_alloc ?_ _ | with_reducible refine below_grow ?_ _ | with_reducible refine below_drewN ?_ _ | with_reducible refine below_drew ?_ | with_reducible refine below_setCell ?_ (by first | (dsimp only; omega) | (simp; done) | (simp; omega)) _))) (HB.out.mono (by first | exact le_grow _ _ _ (Nat.le_refl _) | (simp [go_sem])))
  case round =>
    obtain ⟨k, lv, hk, rfl, Hb⟩ := hrel
    clear HH HB
    by_cases hlt : k < ls.length
    · obtain ⟨line, hx⟩ := get_some hlt
      obtain ⟨b, off, rfl, e0⟩ := Sl.getS HA.out Hb.out.b k line hx
      have HT := Lib.hid (adds_take ls k line hx)
      have HL := Lib.hid (adds_le ls k)
      have HX := Lib.hid hx
      clear hx
      go_wp2_with (first
        | (go_at_call 20; refine (add_any _ _ _ _ 50 _ line Hb.out.h (by have := HL.out; omega) (by omega) (by omega)).mono ?_; rintro e w2 ⟨rfl, ⟨lv2, hh2, hj2⟩, hk2⟩; have h2 := Hb.out.add (Nat.le_refl _) hh2 hj2 hk2; obtain ⟨_, _, e2, e0'⟩ := Sl.getS HA.out h2.b k line HX.out; cases e2; have H2 := Lib.hid h2; clear hh2 hj2 hk2 h2)
        | (go_at_call 19; refine (refAdd_any _ _ 50 _ line H2.out.sl (by have := HL.out; omega) (by omega)).mono ?_; rintro e w1 ⟨⟨u, rfl, hu, huj⟩, hb1⟩; have H3 := Lib.hid (H2.out.ref (Nat.le_refl _) hb1 hu huj); clear hu hb1 huj))
      go_roundw
      case rel => exact ⟨k + 1, lv2, by omega, by go_num, by show Both _ _ _ _ _ _ _ _ _; rw [HT.out]; exact H3.out⟩
      case measure => simp [intOf]; omega
    · have hk' : k = ls.length := by omega
      have h1 := Hb.out
      rw [hk', List.take_length] at h1
      have hal : (adds ls).length ≤ 10 := by have := adds_le ls ls.length; rw [List.take_length] at this; omega
      have Hb1 := Lib.hid h1
      have HK := Lib.hid hk'
      clear hk' h1 Hb hi0 hz00 hz01 hz02
      obtain ⟨i0, hi0, hz00, hz01, hz02⟩ := info_parts info_str
      obtain ⟨xs, hxs⟩ : ∃ xs, xs = adds ls := ⟨_, rfl⟩
      rw [← hxs] at Hb1 hal
      have HXS := Lib.hid hxs
      clear hxs
      go_wp2_with (first
        | (go_at_call 23; refine (walk_any _ _ _ _ _ xs now Hb1.out.h (by omega)).mono ?_; rintro e w1 ⟨pb, lv1, rfl, hwk, hb1⟩; have HW1 := Lib.hid hwk; have HB1 := Lib.hid hb1; clear hwk hb1)
        | ((at_builtin; refine wpList_append_src _ rfl (.tmp 61) (.tmp 62) _ rfl w1.heap.size 9 i0 _ 1 16 Try.underlying22 hi0 hz00 hz01 hz02 rfl (by decide) _ 0 [] rfl (Own.none_ _ _ _ _ _ (by simp)) _ xs.length (xs.flatMap strC) rfl (by rw [strC_flat, Nat.mul_one]) ((((Hb1.out.sl.src strC_len).below HB1.out).below (by (repeat (first | exact Below.refl _ _ | assumption | with_reducible refine below_alloc ?_ _ | with_reducible refine below_grow ?_ _ | with_reducible refine below_drewN ?_ _ | with_reducible refine below_drew ?_ | with_reducible refine below_setCell ?_ (by first | (dsimp only; omega) | (simp; done) | (simp; omega)) _))))) strC_one (by unfold maxLen; omega) (by omega) (by first | (simp; done) | omega | (simp; omega)) ?_; intro v11 w11 hown11 hg11 hat11); simp only [Nat.zero_add, List.nil_append] at hown11; have hb11 : Below w1.heap.size w1 w11 := below_keeps (by (repeat (first | exact Below.refl _ _ | assumption | with_reducible refine below_alloc ?_ _ | with_reducible refine below_grow ?_ _ | with_reducible refine below_drewN ?_ _ | with_reducible refine below_drew ?_ | with_reducible refine below_setCell ?_ (by first | (dsimp only; omega) | (simp; done) | (simp; omega)) _))) hg11 (fun k hk => hk.2); have hz1 := hb11.size; have Hown1 := Lib.hid hown11; have Hb11 := Lib.hid hb11; clear hown11 hb11 hg11 hat11)
        | ((at_builtin; refine wpList_append_src _ rfl (.tmp 63) (.tmp 65) _ rfl w1.heap.size 9 i0 _ 1 16 Try.underlying22 hi0 hz00 hz01 hz02 rfl (by decide) _ xs.length (xs.flatMap strC) rfl (Hown1.out.below (by (repeat (first | exact Below.refl _ _ | assumption | with_reducible refine below_alloc ?_ _ | with_reducible refine below_grow ?_ _ | with_reducible refine below_drewN ?_ _ | with_reducible refine below_drew ?_ | with_reducible refine below_setCell ?_ (by first | (dsimp only; omega) | (simp; done) | (simp; omega)) _)))) _ 1 [.string (B now)] rfl rfl (Src.one _ _ _ _) (by simp [Value.oneCell']) (by unfold maxLen; omega) (by omega) (by first | (simp; done) | omega | (simp; omega)) ?_; intro v12 w12 hown12 hg12 hat12); have hb12 : Below w1.heap.size w1 w12 := below_keeps (by first | exact below_alloc Hb11.out _ | (repeat (first | exact Below.refl _ _ | assumption | with_reducible refine below_alloc ?_ _ | with_reducible refine below_grow ?_ _ | with_reducible refine below_drewN ?_ _ | with_reducible refine below_drew ?_ | with_reducible refine below_setCell ?_ (by first | (dsimp only; omega) | (simp; done) | (simp; omega)) _))) hg12 (fun k hk => hk.2); obtain ⟨g2, off2, c2, rfl, q1, q2, q3, q4⟩ := hown12.form; have Hown2 := Lib.hid hown12; have Hb12 := Lib.hid hb12; clear hown12 hg12 hb12 hat12))
      obtain ⟨wo, rfl⟩ : ∃ wo : World, wo = wr := ⟨_, rfl⟩
      go_loopw [8, 11, 12, 13, 14, 15, 16] (fun x a i _ _ _ _ wr => ∃ (k at_ n : Nat) (ys : List (List UInt8)), k ≤ st.length ∧ i = .int .i64 k ∧ a = .int .i64 at_ ∧ at_ < n ∧ n ≤ 11 ∧ Hid (n = ys.length) ∧ Hid (St wo pb lv1 x ys at_ wr)) (fun _ _ i _ _ _ _ _ => st.length - (intOf i).toNat)
      case atStart => exact ⟨0, xs.length, xs.length + 1, xs ++ [now], by omega, rfl, by go_num, by omega, by omega, (by show _ = _; simp), HW1.out.below Hb12.out, Own.sl (by simpa [strC] using Hown2.out) strC_len (by simp), HB1.out.trans (Hb12.out.mono HB1.out.size)⟩
      case round =>
        obtain ⟨k, at_, n, ys, hk, rfl, rfl, hat, hn11, HN, HS⟩ := hrel
        clear Hown2 Hb12
        have Hbw := Lib.hid (Hb1.out.b.trans (HS.out.b.mono Hb1.out.b.size))
        by_cases hlt : k < st.length
        · obtain ⟨x, hx⟩ := get_some hlt
          obtain ⟨sb, so, rfl, hsb', hsc⟩ := HSA.out (by omega)
          have f0 : wr.cell? ⟨sb, so + k * 2, none⟩ = some (.bool x.up) := (Hbw.out.cell (p := ⟨sb, so + k * 2, none⟩) hsb').trans (hsc k _ hx 0 _ rfl)
          have f1 : wr.cell? ⟨sb, so + k * 2 + 1, none⟩ = some (.string (B x.now)) := (Hbw.out.cell (p := ⟨sb, so + k * 2 + 1, none⟩) hsb').trans (hsc k _ hx 1 _ rfl)
          have hsb : sb < wr.heap.size := Nat.lt_of_lt_of_le hsb' Hbw.out.size
          obtain ⟨up, t⟩ := x
          simp only at f0 f1
          clear hx hsc hsb'
          by_cases ht : 40 < t.length
          · go_wp2
            go_ret
            exact ⟨rfl, Hbw.out⟩
          have ht4 : t.length ≤ 40 := by omega
          have ht' : decide ((40 : Int) < (t.length : Int)) = false := no (by omega)
          clear ht
          have hsr := HS.out.sl.src strC_len
          rw [← HN.out] at hsr
          have HSR := Lib.hid hsr
          clear hsr
          cases up
          · by_cases hq : at_ + 1 < n
            · obtain ⟨z, hz⟩ := set_some ys at_ (at_ + 1) t (by have := HN.out; omega)
              have HZ := Lib.hid hz
              clear hz
              go_wp2_with (first | (go_at_call 24; refine (at_any _ _ _ _ _ _ HS.out.wk).mono ?_; rintro e w' ⟨rfl, rfl⟩) | ((at_builtin; refine wpList_append_src _ rfl (.tmp 96) (.tmp 97) _ rfl wr.heap.size 9 i0 _ 1 16 Try.underlying22 hi0 hz00 hz01 hz02 rfl (by decide) _ 0 [] rfl (Own.none_ _ _ _ _ _ (by simp)) _ n (ys.flatMap strC) rfl (by rw [strC_flat, Nat.mul_one, HN.out]) (HSR.out.below (by (repeat (first | exact Below.refl _ _ | assumption | with_reducible refine below_alloc ?_ _ | with_reducible refine below_grow ?_ _ | with_reducible refine below_drewN ?_ _ | with_reducible refine below_drew ?_ | with_reducible refine below_setCell ?_ (by first | (dsimp only; omega) | (simp; done) | (simp; omega)) _)))) strC_one (by unfold maxLen; omega) (by omega) (by first | (simp; done) | omega | (simp; omega)) ?_; intro v21 w21 hown21 hg21 hat21); simp only [Nat.zero_add, List.nil_append] at hown21; have hb21 : Below wr.heap.size wr w21 := below_keeps (by (repeat (first | exact Below.refl _ _ | assumption | with_reducible refine below_alloc ?_ _ | with_reducible refine below_grow ?_ _ | with_reducible refine below_drewN ?_ _ | with_reducible refine below_drew ?_ | with_reducible refine below_setCell ?_ (by first | (dsimp only; omega) | (simp; done) | (simp; omega)) _))) hg21 (fun k hk => hk.2); obtain ⟨g3, off3, c3, rfl, r1, r2, r3, r4⟩ := hown21.form' (by omega); obtain ⟨_, _, u1, u2⟩ := hown21.cellOk at_ (by omega); have u1' := hb21.cell (p := ⟨sb, so + k * 2, none⟩) hsb; have u2' := hb21.cell (p := ⟨sb, so + k * 2 + 1, none⟩) hsb; rw [f0] at u1'; rw [f1] at u2'; have Hown21 := Lib.hid hown21; have Hb21 := Lib.hid hb21; have hne : sb ≠ g3 := (by omega); have hne2 : g3 ≠ sb := (by omega); clear hown21 hb21 hg21 hat21 f0 f1) | (go_at_call 26; refine (down_any _ _ _ _ ys at_ t (HS.out.wk.below (below_setCell Hb21.out r1 _)) (by have := HN.out; omega) (by have := HN.out; omega)).mono ?_; rintro e w4 hsp; obtain ⟨he, hwk⟩ := hsp.yes (at_ + 1) (by omega) (by have := HN.out; omega); rw [HZ.out] at he; simp only [Option.getD_some] at he; subst he; have hst := HS.out.step (below_setCell Hb21.out r1 _) (Own.set (y := t) Hown21.out (by omega)) (by rw [List.length_set, HN.out]) (by omega) hwk hsp.k; obtain ⟨_, y1, y2, _⟩ := hst.2.cellOk (at_ + 1) (by omega); rw [HZ.out] at y1; cases y1; have HST := Lib.hid hst.1; clear hst hwk hsp))
              go_roundw
              case rel => exact ⟨k + 1, (at_ + 1), n, ys.set at_ t, by omega, by go_num, by first | rfl | go_num, by omega, by omega, by show _ = _; rw [List.length_set, HN.out], HST.out⟩
              case measure => simp [intOf]; omega
            · have hq1 : n ≤ at_ + 1 := by omega
              have hq2 : (n : Int) ≤ (at_ : Int) + 1 := by omega
              clear hq
              go_wp2_with (first | (go_at_call 24; refine (at_any _ _ _ _ _ _ HS.out.wk).mono ?_; rintro e w' ⟨rfl, rfl⟩) | ((at_builtin; refine wpList_append_src _ rfl (.tmp 96) (.tmp 97) _ rfl wr.heap.size 9 i0 _ 1 16 Try.underlying22 hi0 hz00 hz01 hz02 rfl (by decide) _ 0 [] rfl (Own.none_ _ _ _ _ _ (by simp)) _ n (ys.flatMap strC) rfl (by rw [strC_flat, Nat.mul_one, HN.out]) (HSR.out.below (by (repeat (first | exact Below.refl _ _ | assumption | with_reducible refine below_alloc ?_ _ | with_reducible refine below_grow ?_ _ | with_reducible refine below_drewN ?_ _ | with_reducible refine below_drew ?_ | with_reducible refine below_setCell ?_ (by first | (dsimp only; omega) | (simp; done) | (simp; omega)) _)))) strC_one (by unfold maxLen; omega) (by omega) (by first | (simp; done) | omega | (simp; omega)) ?_; intro v21 w21 hown21 hg21 hat21); simp only [Nat.zero_add, List.nil_append] at hown21; have hb21 : Below wr.heap.size wr w21 := below_keeps (by (repeat (first | exact Below.refl _ _ | assumption | with_reducible refine below_alloc ?_ _ | with_reducible refine below_grow ?_ _ | with_reducible refine below_drewN ?_ _ | with_reducible refine below_drew ?_ | with_reducible refine below_setCell ?_ (by first | (dsimp only; omega) | (simp; done) | (simp; omega)) _))) hg21 (fun k hk => hk.2); obtain ⟨g3, off3, c3, rfl, r1, r2, r3, r4⟩ := hown21.form' (by omega); obtain ⟨_, _, u1, u2⟩ := hown21.cellOk at_ (by omega); have u1' := hb21.cell (p := ⟨sb, so + k * 2, none⟩) hsb; have u2' := hb21.cell (p := ⟨sb, so + k * 2 + 1, none⟩) hsb; rw [f0] at u1'; rw [f1] at u2'; have Hown21 := Lib.hid hown21; have Hb21 := Lib.hid hb21; have hne : sb ≠ g3 := (by omega); have hne2 : g3 ≠ sb := (by omega); clear hown21 hb21 hg21 hat21 f0 f1) | (go_at_call 26; refine (down_any _ _ _ _ ys at_ t (HS.out.wk.below (below_setCell Hb21.out r1 _)) (by have := HN.out; omega) (by have := HN.out; omega)).mono ?_; rintro e w4 hsp; obtain ⟨he, hwk⟩ := hsp.no (by have := HN.out; omega); subst he; have hst := HS.out.step (below_setCell Hb21.out r1 _) (Own.set (y := t) Hown21.out (by omega)) (by rw [List.length_set, HN.out]) (by omega) hwk hsp.k; have HST := Lib.hid hst.1; clear hst hwk hsp))
              go_roundw
              case rel => exact ⟨k + 1, at_, n, ys.set at_ t, by omega, by go_num, by first | rfl | go_num, by omega, by omega, by show _ = _; rw [List.length_set, HN.out], HST.out⟩
              case measure => simp [intOf]; omega
          · by_cases hz : at_ < 1
            · have hz2 : (at_ : Int) - 1 < 0 := by omega
              go_wp2_with (first | (go_at_call 24; refine (at_any _ _ _ _ _ _ HS.out.wk).mono ?_; rintro e w' ⟨rfl, rfl⟩) | ((at_builtin; refine wpList_append_src _ rfl (.tmp 96) (.tmp 97) _ rfl wr.heap.size 9 i0 _ 1 16 Try.underlying22 hi0 hz00 hz01 hz02 rfl (by decide) _ 0 [] rfl (Own.none_ _ _ _ _ _ (by simp)) _ n (ys.flatMap strC) rfl (by rw [strC_flat, Nat.mul_one, HN.out]) (HSR.out.below (by (repeat (first | exact Below.refl _ _ | assumption | with_reducible refine below_alloc ?_ _ | with_reducible refine below_grow ?_ _ | with_reducible refine below_drewN ?_ _ | with_reducible refine below_drew ?_ | with_reducible refine below_setCell ?_ (by first | (dsimp only; omega) | (simp; done) | (simp; omega)) _)))) strC_one (by unfold maxLen; omega) (by omega) (by first | (simp; done) | omega | (simp; omega)) ?_; intro v21 w21 hown21 hg21 hat21); simp only [Nat.zero_add, List.nil_append] at hown21; have hb21 : Below wr.heap.size wr w21 := below_keeps (by (repeat (first | exact Below.refl _ _ | assumption | with_reducible refine below_alloc ?_ _ | with_reducible refine below_grow ?_ _ | with_reducible refine below_drewN ?_ _ | with_reducible refine below_drew ?_ | with_reducible refine below_setCell ?_ (by first | (dsimp only; omega) | (simp; done) | (simp; omega)) _))) hg21 (fun k hk => hk.2); obtain ⟨g3, off3, c3, rfl, r1, r2, r3, r4⟩ := hown21.form' (by omega); obtain ⟨_, _, u1, u2⟩ := hown21.cellOk at_ (by omega); have u1' := hb21.cell (p := ⟨sb, so + k * 2, none⟩) hsb; have u2' := hb21.cell (p := ⟨sb, so + k * 2 + 1, none⟩) hsb; rw [f0] at u1'; rw [f1] at u2'; have Hown21 := Lib.hid hown21; have Hb21 := Lib.hid hb21; have hne : sb ≠ g3 := (by omega); have hne2 : g3 ≠ sb := (by omega); clear hown21 hb21 hg21 hat21 f0 f1) | (go_at_call 25; refine (up_any _ _ _ _ ys at_ t (HS.out.wk.below (below_setCell Hb21.out r1 _)) (by have := HN.out; omega) (by have := HN.out; omega)).mono ?_; rintro e w4 hsp; obtain ⟨he, hwk⟩ := hsp.no (by have := HN.out; omega); subst he; have hst := HS.out.step (below_setCell Hb21.out r1 _) (Own.set (y := t) Hown21.out (by omega)) (by rw [List.length_set, HN.out]) (by omega) hwk hsp.k; have HST := Lib.hid hst.1; clear hst hwk hsp))
              go_roundw
              case rel => exact ⟨k + 1, at_, n, ys.set at_ t, by omega, by go_num, by first | rfl | go_num, by omega, by omega, by show _ = _; rw [List.length_set, HN.out], HST.out⟩
              case measure => simp [intOf]; omega
            · obtain ⟨q, rfl⟩ : ∃ q, at_ = q + 1 := ⟨at_ - 1, by omega⟩
              clear hz
              obtain ⟨z, hz⟩ := set_some ys (q + 1) q t (by have := HN.out; omega)
              have HZ := Lib.hid hz
              clear hz
              go_wp2_with (first | (go_at_call 24; refine (at_any _ _ _ _ _ _ HS.out.wk).mono ?_; rintro e w' ⟨rfl, rfl⟩) | ((at_builtin; refine wpList_append_src _ rfl (.tmp 96) (.tmp 97) _ rfl wr.heap.size 9 i0 _ 1 16 Try.underlying22 hi0 hz00 hz01 hz02 rfl (by decide) _ 0 [] rfl (Own.none_ _ _ _ _ _ (by simp)) _ n (ys.flatMap strC) rfl (by rw [strC_flat, Nat.mul_one, HN.out]) (HSR.out.below (by (repeat (first | exact Below.refl _ _ | assumption | with_reducible refine below_alloc ?_ _ | with_reducible refine below_grow ?_ _ | with_reducible refine below_drewN ?_ _ | with_reducible refine below_drew ?_ | with_reducible refine below_setCell ?_ (by first | (dsimp only; omega) | (simp; done) | (simp; omega)) _)))) strC_one (by unfold maxLen; omega) (by omega) (by first | (simp; done) | omega | (simp; omega)) ?_; intro v21 w21 hown21 hg21 hat21); simp only [Nat.zero_add, List.nil_append] at hown21; have hb21 : Below wr.heap.size wr w21 := below_keeps (by (repeat (first | exact Below.refl _ _ | assumption | with_reducible refine below_alloc ?_ _ | with_reducible refine below_grow ?_ _ | with_reducible refine below_drewN ?_ _ | with_reducible refine below_drew ?_ | with_reducible refine below_setCell ?_ (by first | (dsimp only; omega) | (simp; done) | (simp; omega)) _))) hg21 (fun k hk => hk.2); obtain ⟨g3, off3, c3, rfl, r1, r2, r3, r4⟩ := hown21.form' (by omega); obtain ⟨_, _, u1, u2⟩ := hown21.cellOk (q + 1) (by omega); have u1' := hb21.cell (p := ⟨sb, so + k * 2, none⟩) hsb; have u2' := hb21.cell (p := ⟨sb, so + k * 2 + 1, none⟩) hsb; rw [f0] at u1'; rw [f1] at u2'; have Hown21 := Lib.hid hown21; have Hb21 := Lib.hid hb21; have hne : sb ≠ g3 := (by omega); have hne2 : g3 ≠ sb := (by omega); clear hown21 hb21 hg21 hat21 f0 f1) | (go_at_call 25; refine (up_any _ _ _ _ ys (q + 1) t (HS.out.wk.below (below_setCell Hb21.out r1 _)) (by have := HN.out; omega) (by have := HN.out; omega)).mono ?_; rintro e w4 hsp; obtain ⟨he, hwk⟩ := hsp.yes q (by omega) (by have := HN.out; omega); rw [HZ.out] at he; simp only [Option.getD_some] at he; subst he; have hst := HS.out.step (below_setCell Hb21.out r1 _) (Own.set (y := t) Hown21.out (by omega)) (by rw [List.length_set, HN.out]) (by omega) hwk hsp.k; obtain ⟨_, y1, y2, _⟩ := hst.2.cellOk q (by omega); rw [HZ.out] at y1; cases y1; have HST := Lib.hid hst.1; clear hst hwk hsp))
              go_roundw
              case rel => exact ⟨k + 1, q, n, ys.set (q + 1) t, by omega, by go_num, by first | rfl | go_num, by omega, by omega, by show _ = _; rw [List.length_set, HN.out], HST.out⟩
              case measure => simp [intOf]; omega
        · clear hat
          go_wp2_with (first
            | (go_at_call 24; refine (at_any _ _ _ _ _ _ HS.out.wk).mono ?_; rintro e w' ⟨rfl, rfl⟩)
            | (go_at_call 22; refine (lines_any _ _ _ _ _ xs (Hb1.out.h.below HS.out.b) (by omega)).mono ?_; rintro e w5 ⟨v5, rfl, ho5, hb5⟩; have HL5 := Lib.hid (ho5.sl strC_len rfl); have HB5 := Lib.hid (below_then Hbw.out hb5); clear ho5 hb5)
            | (go_at_call 27; refine (adds_any _ _ ls (HV.out.below HB5.out) (by omega)).mono ?_; rintro e w6 ⟨v6, rfl, ho6, hb6⟩; rw [← HXS.out] at ho6; have HL6 := Lib.hid ho6; have HL7 := Lib.hid (HL5.out.below hb6); have HB6 := Lib.hid (below_then HB5.out hb6); clear ho6 hb6)
            | (go_at_call 21; refine (same_str _ _ _ _ _ HL7.out HL6.out).mono ?_; rintro e w7 ⟨he, hb7⟩; rw [beq_self_eq_true] at he; subst he; have HB7 := Lib.hid (below_then HB6.out hb7); clear hb7))
          go_ret
          exact ⟨rfl, HB7.out⟩
end Go.Proofs.Ytkinjjgaecbogaa.histWalks
