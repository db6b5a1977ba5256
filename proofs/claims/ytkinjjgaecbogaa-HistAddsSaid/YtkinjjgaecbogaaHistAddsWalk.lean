/-
  The walk of the law HistAdds: it returns true, whatever its arguments. Conditions: none (arguments as the row reads them).
-/
import Derived.Test.YtkinjjgaecbogaaHist5
namespace Go.Proofs.Ytkinjjgaecbogaa.histAdds
open Go.ChangeShapes Go.WideShapes Go.ChangeAt Go.RowKit
set_option maxRecDepth 100000
theorem addL_len (xs : List (List UInt8)) (line : List UInt8) (most : Nat) : (addL xs line most).length ≤ xs.length + 1 := by
  unfold addL
  split
  · split <;> simp
  · omega
/-- The slice x lies apart from the history. -/
def Off (w : World) (b0 hb : Nat) (lv x : Value) : Prop := ∀ j, x.ownBlock = some j → j < w.heap.size ∧ j ≠ hb ∧ ¬ (lv.ownBlock = some j ∧ b0 ≤ j)
theorem round {w w0 w1 w2 w3 : World} {b0 hb : Nat} {lv lv2 x u : Value} {most : Int} {xs ys : List (List UInt8)} (hbw : Below b0 w w0) (hh : HistAt w0 b0 hb lv most xs) (hoff : Off w0 b0 hb lv x) (hb1 : Below w0.heap.size w0 w1)
    (hu : Sl w1 strC 1 u ys) (huj : u = x ∨ ∀ k, u.ownBlock = some k → w0.heap.size ≤ k ∧ k < w1.heap.size) (hh2 : HistAt w2 b0 hb lv2 most ys) (hj2 : lv2.ownBlock = lv.ownBlock ∨ ∀ k, lv2.ownBlock = some k → w1.heap.size ≤ k)
    (hk2 : Keeps (fun k => k = hb ∨ (lv.ownBlock = some k ∧ b0 ≤ k)) w1 w2) (hb3 : Below w2.heap.size w2 w3) :
    Sl w3 strC 1 u ys ∧ HistAt w3 b0 hb lv2 most ys ∧ Off w3 b0 hb lv2 u ∧ Below b0 w w3 := by
  have hoff1 : ∀ j, u.ownBlock = some j → j < w1.heap.size ∧ j ≠ hb ∧ ¬ (lv.ownBlock = some j ∧ b0 ≤ j) := by
    intro j hj
    rcases huj with rfl | h
    · obtain ⟨h1, h2, h3⟩ := hoff j hj
      exact ⟨Nat.lt_of_lt_of_le h1 hb1.size, h2, h3⟩
    · obtain ⟨h1, h2⟩ := h j hj
      refine ⟨h2, ?_, fun h3 => ?_⟩
      · have := hh.lt; omega
      · have := hh.own.lt j h3.1; omega
  refine ⟨(hu.keeps hk2 fun j hj _ hF => ?_).below hb3, hh2.below hb3, fun j hj => ?_, ?_⟩
  · obtain ⟨_, h2, h3⟩ := hoff1 j hj
    rcases hF with h | h
    · exact h2 h
    · exact h3 h
  · obtain ⟨h1, h2, h3⟩ := hoff1 j hj
    refine ⟨Nat.lt_of_lt_of_le (Nat.lt_of_lt_of_le h1 hk2.size) hb3.size, h2, fun h => ?_⟩
    rcases hj2 with e | e
    · rw [e] at h; exact h3 h
    · have := e j h.1; omega
  · have hge := hh.ge
    have hlt := hh.lt
    have hle : b0 ≤ w0.heap.size := by omega
    refine ((hbw.trans (hb1.mono hle)).trans (hk2.below (Nat.le_trans hle hb1.size) fun k hF => ?_)).trans (hb3.mono (Nat.le_trans (Nat.le_trans hle hb1.size) hk2.size))
    rcases hF with h | h
    · omega
    · exact h.2
set_option maxHeartbeats 3200000 in
theorem walk {H : Type} (enc : TypeId × Value → H) (w : World) (base : Nat) {v0 v1 : Value} {d0 d1 : DataW H} {p0 p1 : List MemPlace}
    (h0 : DataW.Trod enc Try.prog w 0 (fun _ => true) true 3 v0 d0 p0) (k0 : Value.okWide Try.prog w .any base 3 v0)
    (h1 : DataW.Trod enc Try.prog w 0 (fun _ => true) true 22 v1 d1 p1) (k1 : Value.okWide Try.prog w .any base 22 v1) :
    Calls Try.prog 3 #[v0, v1] w fun e w' => e = .returned (.bool true) ∧ Below w.heap.size w w' := by
  obtain ⟨most, rfl, hm1, hm2⟩ := open_num h0 k0
  obtain ⟨ls, hv, hll⟩ := open_strs h1 k1
  clear h0 k0 h1 k1
  have HF := Lib.hid fun (g : GrowOf w) => few_any ls v1 40 (grow w g) (hv.below g.2) (by omega)
  by_cases hfew : fewB ls 40 = false
  · have HF' := Lib.hid fun (g : GrowOf w) => show Calls Try.prog 17 #[v1, .int .i64 40] (grow w g) fun e w' => e = .returned (.bool false) ∧ Below (grow w g).heap.size (grow w g) w' from (HF.out g).mono fun e w' h => ⟨by rw [h.1, hfew], h.2⟩
    clear HF hfew hv
    go_enter Try.func3, Try.ntmps3
    go_wp2_with (first | (go_at_call 16; refine (awake_any _).mono ?_; rintro e w' ⟨rfl, hb⟩; obtain ⟨g, rfl⟩ := to_grow hb; clear hb) | (go_at_call 17; refine (HF'.out _).mono ?_; rintro e w' ⟨rfl, hb⟩; obtain ⟨g, rfl⟩ := to_grow hb; clear hb))
    go_ret
    exact ⟨rfl, by (repeat (first | exact Below.refl _ _ | assumption | with_reducible refine below_alloc ?_ _ | with_reducible refine below_grow ?_ _ | with_reducible refine below_drewN ?_ _ | with_reducible refine below_drew ?_ | with_reducible refine below_setCell ?_ (by first | (dsimp only; omega) | (simp; done) | (simp; omega)) _))⟩
  have hfew' : fewB ls 40 = true := by simpa using hfew
  have HF' := Lib.hid fun (g : GrowOf w) => show Calls Try.prog 17 #[v1, .int .i64 40] (grow w g) fun e w' => e = .returned (.bool true) ∧ Below (grow w g).heap.size (grow w g) w' from (HF.out g).mono fun e w' h => ⟨by rw [h.1, hfew'], h.2⟩
  obtain ⟨hl40, _⟩ := few_yes hfew'
  clear HF hfew hfew'
  by_cases hbad : most < 1 ∨ 10000 < most
  · have HN := Lib.hid fun w => new_bad most w hbad
    have d50 : decide ((50 : Int) < most) = false ∨ ((50 : Int) < most ∧ decide (most ≤ 10000) = false) := by
      rcases hbad with h | h
      · exact .inl (no (by omega))
      · exact .inr ⟨by omega, no (by omega)⟩
    have d1 : most < 1 ∨ (decide (most < 1) = false ∧ (10000 : Int) < most) := by
      rcases hbad with h | h
      · exact .inl h
      · exact .inr ⟨no (by omega), h⟩
    clear hbad hv
    rcases d1 with d1 | ⟨d1, d2⟩
    · have d50' : decide ((50 : Int) < most) = false := no (by omega)
      clear d50
      go_enter Try.func3, Try.ntmps3
      go_wp2_with (first | (go_at_call 16; refine (awake_any _).mono ?_; rintro e w' ⟨rfl, hb⟩; obtain ⟨g, rfl⟩ := to_grow hb; clear hb) | (go_at_call 17; refine (HF'.out _).mono ?_; rintro e w' ⟨rfl, hb⟩; obtain ⟨g, rfl⟩ := to_grow hb; clear hb) | (go_at_call 18; refine (HN.out _).mono ?_; rintro e w' ⟨rfl, rfl⟩))
      go_ret
      exact ⟨rfl, by (repeat (first | exact Below.refl _ _ | assumption | with_reducible refine below_alloc ?_ _ | with_reducible refine below_grow ?_ _ | with_reducible refine below_drewN ?_ _ | with_reducible refine below_drew ?_ | with_reducible refine below_setCell ?_ (by first | (dsimp only; omega) | (simp; done) | (simp; omega)) _))⟩
    · have d50' : (50 : Int) < most := by omega
      have d51 : decide (most ≤ 10000) = false := no (by omega)
      clear d50
      go_enter Try.func3, Try.ntmps3
      go_wp2_with (first | (go_at_call 16; refine (awake_any _).mono ?_; rintro e w' ⟨rfl, hb⟩; obtain ⟨g, rfl⟩ := to_grow hb; clear hb) | (go_at_call 17; refine (HF'.out _).mono ?_; rintro e w' ⟨rfl, hb⟩; obtain ⟨g, rfl⟩ := to_grow hb; clear hb) | (go_at_call 18; refine (HN.out _).mono ?_; rintro e w' ⟨rfl, rfl⟩))
      go_ret
      exact ⟨rfl, by (repeat (first | exact Below.refl _ _ | assumption | with_reducible refine below_alloc ?_ _ | with_reducible refine below_grow ?_ _ | with_reducible refine below_drewN ?_ _ | with_reducible refine below_drew ?_ | with_reducible refine below_setCell ?_ (by first | (dsimp only; omega) | (simp; done) | (simp; omega)) _))⟩
  obtain ⟨most, rfl⟩ := Int.eq_ofNat_of_zero_le (by omega : 0 ≤ most)
  by_cases hbig : 50 < most
  · have d1 : (50 : Int) < (most : Int) := by omega
    have d2 : (most : Int) ≤ 10000 := by omega
    clear hbad hv
    go_enter Try.func3, Try.ntmps3
    go_wp2_with (first | (go_at_call 16; refine (awake_any _).mono ?_; rintro e w' ⟨rfl, hb⟩; obtain ⟨g, rfl⟩ := to_grow hb; clear hb) | (go_at_call 17; refine (HF'.out _).mono ?_; rintro e w' ⟨rfl, hb⟩; obtain ⟨g, rfl⟩ := to_grow hb; clear hb))
    go_ret
    exact ⟨rfl, by (repeat (first | exact Below.refl _ _ | assumption | with_reducible refine below_alloc ?_ _ | with_reducible refine below_grow ?_ _ | with_reducible refine below_drewN ?_ _ | with_reducible refine below_drew ?_ | with_reducible refine below_setCell ?_ (by first | (dsimp only; omega) | (simp; done) | (simp; omega)) _))⟩
  have m1 : 1 ≤ most := by omega
  have m2 : most ≤ 50 := by omega
  have d1 := no (show ¬ (50 : Int) < (most : Int) by omega)
  have d2 := no (show ¬ (most : Int) < 1 by omega)
  have d3 := no (show ¬ (10000 : Int) < (most : Int) by omega)
  clear hbad hbig
  obtain ⟨A, c, rfl, hc1, hc2, hn, hA⟩ := hv
  have HA := Lib.hid hA
  clear hA hn hm1 hm2
  go_enter Try.func3, Try.ntmps3
  go_wp2_with (first | (go_at_call 16; refine (awake_any _).mono ?_; rintro e w' ⟨rfl, hb⟩; obtain ⟨g, rfl⟩ := to_grow hb; clear hb) | (go_at_call 17; refine (HF'.out _).mono ?_; rintro e w' ⟨rfl, hb⟩; obtain ⟨g, rfl⟩ := to_grow hb; clear hb) | (go_at_call 18; refine (new_ok most _ m1 (by omega)).mono ?_; rintro e wn ⟨hb, rfl, hh, hbl⟩; have HH := Lib.hid hh; have HB := Lib.hid hbl; clear hh hbl))
  go_loopg [6, 7, 8, 9] (ls.length + 1) (fun g x i _ _ wr => ∃ (k : Nat) (xs : List (List UInt8)) (lv : Value), k ≤ ls.length ∧ g = ls.length + 1 - k ∧ i = .int .i64 k ∧ xs.length ≤ k ∧ Hid (HistAt wr w.heap.size hb lv most xs) ∧ Hid (Sl wr strC 1 x xs) ∧
      Hid (Off wr w.heap.size hb lv x) ∧ Hid (Below w.heap.size w wr))
  case atStart =>
    refine ⟨0, [], .slice none 0 0, by omega, rfl, rfl, by simp, ?_, Sl.nil _ _ _, (fun j hj => by simp [Value.ownBlock] at hj), ?_⟩
    · have := HH.out
      exact ⟨this.lt, Nat.le_trans (by first | exact le_grow _ _ _ (Nat.le_refl _) | (simp [go_sem])) this.ge, this.c0, this.c1, this.f0, Own.nil _ _ _, this.ne⟩
    · exact Below.trans (by (repeat (first | exact Below.refl _ _ | assumption | with_reducible refine below_alloc ?_ _ | with_reducible refine below_grow ?_ _ | with_reducible refine below_drewN ?_ _ | with_reducible refine below_drew ?_ | with_reducible refine below_setCell ?_ (by first | (dsimp only; omega) | (simp; done) | (simp; omega)) _))) (HB.out.mono (by first | exact le_grow _ _ _ (Nat.le_refl _) | (simp [go_sem])))
  case round =>
    obtain ⟨k, xs, lv, hk, hg, rfl, hxk, Hh, Hx, Hxj, Hbw⟩ := hrel
    have Hg := Lib.hid hg
    clear hg HH HB
    by_cases hlt : k < ls.length
    · obtain ⟨b, off, rfl, hb', hc⟩ := HA.out (by omega)
      have e0 : w.cell? ⟨b, off + k, none⟩ = some (.string (B ls[k])) := by have := hc k _ (List.getElem?_eq_getElem hlt) 0 _ rfl; simpa using this
      have e1 := (Hbw.out.cell (p := ⟨b, off + k, none⟩) hb').trans e0
      have E0 := Lib.hid e0
      clear hc e0
      generalize ls[k] = line at *
      cases hw : wantB xs line
      all_goals
        have Hw := Lib.hid hw
        clear hw
        go_wp2_with (first
          | (go_at_call 19; refine (refAdd_any _ _ most xs line Hx.out (by omega) m1).mono ?_; rintro e w1 ⟨⟨u, rfl, hu, huj⟩, hb1⟩; rw [Hw.out]; have e2 := (hb1.cell (p := ⟨b, off + k, none⟩) (World.block_lt_of_cell? _ _ e1)).trans e1; have h1 := Hh.out.below hb1; have H1 := Lib.hid h1; have HU := Lib.hid hu; have HUJ := Lib.hid huj; have HB1 := Lib.hid hb1; clear hu huj hb1 h1 e1)
          | (go_at_call 20; refine (add_any _ _ _ _ most xs line H1.out (by omega) m1 (by omega)).mono ?_; rintro e w2 ⟨rfl, ⟨lv2, hh2, hj2⟩, hk2⟩; rw [Hw.out]; have HH2 := Lib.hid hh2; have HK2 := Lib.hid hk2; have HJ2 := Lib.hid hj2; clear hh2 hj2 hk2 e2)
          | (go_at_call 22; refine (lines_any _ _ _ _ _ _ HH2.out (by have := addL_len xs line most; omega)).mono ?_; rintro e w3 ⟨v3, rfl, ho3, hb3⟩; have HO3 := Lib.hid ho3; have HB3 := Lib.hid hb3; clear ho3 hb3))
        have HR := Lib.hid (round Hbw.out Hh.out Hxj.out HB1.out HU.out HUJ.out HH2.out HJ2.out HK2.out HB3.out)
        have HS3 := Lib.hid (HO3.out.sl strC_len rfl)
        go_wp2_with (go_at_call 21; refine (same_str _ _ _ _ _ HS3.out HR.out.1).mono ?_; rintro e w4 ⟨he, hb4⟩; rw [beq_self_eq_true] at he; subst he; have HB4 := Lib.hid hb4; clear hb4)
        go_roundg (ls.length - k)
        case measure => rw [Hg.out]; omega
        case rel =>
          obtain ⟨r1, r2, r3, r4⟩ := HR.out
          have hs := HB4.out.size
          exact ⟨k + 1, addL xs line most, lv2, by omega, by omega, by go_num, by have := addL_len xs line most; omega, r2.below HB4.out, r1.below HB4.out, (fun j hj => ⟨Nat.lt_of_lt_of_le (r3 j hj).1 hs, (r3 j hj).2⟩), r4.trans (HB4.out.mono (by have := r2.ge; have := r2.lt; omega))⟩
    · clear Hh Hx Hxj
      go_wp2
      go_ret
      exact ⟨rfl, Hbw.out⟩
end Go.Proofs.Ytkinjjgaecbogaa.histAdds
