/-
  The walk of the law LinesTell: it returns true, whatever its arguments. Conditions: none (arguments as the row reads them).
-/
import Derived.Test.YtkinjjgaecbogaaLines6
import Derived.Test.YtkinjjgaecbogaaOpen
namespace Go.Proofs.Ytkinjjgaecbogaa.linesTell
open Go.ChangeShapes Go.WideShapes Go.ChangeAt Go.RowKit
set_option maxRecDepth 100000
set_option maxHeartbeats 3200000 in
theorem walk {H : Type} (enc : TypeId × Value → H) (w : World) (base : Nat) {v0 v1 v2 v3 : Value} {d0 d1 d2 d3 : DataW H} {p0 p1 p2 p3 : List MemPlace}
    (h0 : DataW.Trod enc Try.prog w 0 (fun _ => true) true 9 v0 d0 p0) (k0 : Value.okWide Try.prog w .any base 9 v0)
    (h1 : DataW.Trod enc Try.prog w 0 (fun _ => true) true 3 v1 d1 p1) (k1 : Value.okWide Try.prog w .any base 3 v1)
    (h2 : DataW.Trod enc Try.prog w 0 (fun _ => true) true 3 v2 d2 p2) (k2 : Value.okWide Try.prog w .any base 3 v2)
    (h3 : DataW.Trod enc Try.prog w 0 (fun _ => true) true 3 v3 d3 p3) (k3 : Value.okWide Try.prog w .any base 3 v3) :
    Calls Try.prog 11 #[v0, v1, v2, v3] w fun e w' => e = .returned (.bool true) ∧ Below w.heap.size w w' := by
  obtain ⟨s, rfl, hs⟩ := open_text h0 k0
  obtain ⟨line, rfl, hl1, hl2⟩ := open_num h1 k1
  obtain ⟨col, rfl, hc1, hc2⟩ := open_num h2 k2
  obtain ⟨t, rfl, ht1, ht2⟩ := open_num h3 k3
  clear h0 k0 h1 k1 h2 k2 h3 k3
  by_cases l1 : 200 < s.length
  · go_enter Try.func11, Try.ntmps11
    go_wp2_with (first | (go_at_call 36; refine (awake03_any _).mono ?_; rintro e w' ⟨rfl, hb⟩; obtain ⟨g, rfl⟩ := to_grow hb; clear hb))
    go_ret
    exact ⟨rfl, by (repeat (first | exact Below.refl _ _ | assumption | with_reducible refine below_alloc ?_ _ | with_reducible refine below_grow ?_ _ | with_reducible refine below_drewN ?_ _ | with_reducible refine below_drew ?_ | with_reducible refine below_setCell ?_ (by first | (dsimp only; omega) | (simp; done) | (simp; omega)) _))⟩
  have b1 : s.length ≤ 200 := by omega
  clear l1 hs
  obtain ⟨n, hn⟩ : ∃ n, n = (nls s 0).length := ⟨_, rfl⟩
  have hnl : n ≤ 200 := by have := nls_len s 0; omega
  have HN := Lib.hid hn
  clear hn
  -- what Where tells of the place
  obtain ⟨a, b, h, HW, hat⟩ : ∃ a b h : Int, Hid (∀ w b0 xb lv, IdxAt w b0 xb lv s.length (nls s 0) → Calls Try.prog 45 #[.pointer (some ⟨xb, 0, none⟩), .int .i64 t] w fun e w' => e = .returned (.tuple #[.int .i64 a, .int .i64 b, .int .i64 h]) ∧ w = w') ∧
      ((t < 0 ∧ a = 0 ∧ b = 0 ∧ h = 1) ∨ (¬ t < 0 ∧ (s.length : Int) < t ∧ a = 0 ∧ b = 0 ∧ h = 1) ∨ (¬ t < 0 ∧ ¬ (s.length : Int) < t)) := by
    by_cases hc : t < 0 ∨ (s.length : Int) < t
    · refine ⟨0, 0, 1, fun w b0 xb lv hx => (where_any w b0 xb _ lv _ t hx (by have := HN.out; omega) (by omega)).mono fun e w' k => by rw [if_pos hc] at k; exact k, by omega⟩
    · refine ⟨_, _, _, fun w b0 xb lv hx => (where_any w b0 xb _ lv _ t hx (by have := HN.out; omega) (by omega)).mono fun e w' k => by rw [if_neg hc] at k; exact k, .inr (.inr (by omega))⟩
  have HX0 := Lib.hid (newIdx_any s · (by omega))
  by_cases hline : line < 0 ∨ (n : Int) < line
  · have hE : spanV (nls s 0) s.length line = (0, 0, 1) := by unfold spanV; rw [if_pos (by rw [← HN.out]; exact hline)]
    have hA : atV (nls s 0) s.length line col = (0, 1) := by unfold atV; rw [hE]; rw [if_pos (.inl (by decide))]
    have HE := Lib.hid hE
    have HA := Lib.hid hA
    have HF : Hid (line < 0 ∨ ((nls s 0).length : Int) < line) := by rw [← HN.out]; exact hline
    clear hE hA
    have hline' : line < 0 ∨ (decide (line < 0) = false ∧ (n : Int) + 1 ≤ line) := by
      by_cases h : line < 0
      · exact .inl h
      · exact .inr ⟨no h, by omega⟩
    clear hline
    rcases hline' with hl0 | ⟨hl0, hl00⟩ <;> rcases hat with ⟨h1, rfl, rfl, rfl⟩ | ⟨h1, h2, rfl, rfl, rfl⟩ | ⟨h1, h2⟩
    all_goals
      (try replace h1 := no h1)
      (try replace h2 := no h2)
      go_enter Try.func11, Try.ntmps11
      go_wp2_with (first
        | (go_at_call 36; refine (awake03_any _).mono ?_; rintro e w' ⟨rfl, hb⟩; obtain ⟨g, rfl⟩ := to_grow hb; clear hb)
        | (go_at_call 37; refine (HX0.out _).mono ?_; rintro e w1 ⟨xb, lv, rfl, hx, hb⟩; have HX := Lib.hid hx; have HB := Lib.hid hb; clear hx hb)
        | (go_at_call 41; refine (right_any _ _ _ _ s HX.out (by omega)).mono ?_; rintro e w2 ⟨rfl, hb⟩; have HX2 := Lib.hid (HX.out.below hb); have HB2 := Lib.hid (below_then HB.out hb); clear hb)
        | (go_at_call 38; refine (refLines_any s _ (by omega)).mono ?_; rintro e w3 ⟨v, rfl, ho, hb⟩; rw [linesOf_len, ← HN.out] at ho; obtain ⟨g, off, c, rfl, q1, q2, q3, q4⟩ := ho.form; have HO := Lib.hid ho; have HX3 := Lib.hid (HX2.out.below hb); have HB3 := Lib.hid (below_then HB2.out hb); clear ho hb)
        | (go_at_call 42; refine (atIdx_any _ _ _ _ _ _ line col HX3.out (by have := HN.out; omega) (by omega)).mono ?_; rintro e w' ⟨he, rfl⟩; rw [HA.out] at he; simp only at he; subst he)
        | (go_at_call 43; refine (span_any _ _ _ _ _ _ line HX3.out (by have := HN.out; omega) (by omega)).mono ?_; rintro e w' ⟨he, rfl⟩; rw [HE.out] at he; simp only at he; subst he)
        | (go_at_call 44; refine (linesOf_any s line _ (by omega)).mono ?_; rintro e w4 ⟨he, hb⟩; rw [if_pos HF.out] at he; subst he; have HX4 := Lib.hid (HX3.out.below hb); have HB4 := Lib.hid (below_then HB3.out hb); clear hb)
        | (go_at_call 45; refine (HW.out _ _ _ _ HX4.out).mono ?_; rintro e w' ⟨rfl, rfl⟩))
      go_ret
      exact ⟨rfl, below_then (by (repeat (first | exact Below.refl _ _ | assumption | with_reducible refine below_alloc ?_ _ | with_reducible refine below_grow ?_ _ | with_reducible refine below_drewN ?_ _ | with_reducible refine below_drew ?_ | with_reducible refine below_setCell ?_ (by first | (dsimp only; omega) | (simp; done) | (simp; omega)) _))) HB4.out⟩
  · obtain ⟨k, rfl⟩ := Int.eq_ofNat_of_zero_le (show 0 ≤ line by omega)
    have hk : k ≤ n := by omega
    have hE : spanV (nls s 0) s.length k = (firstOf (nls s 0) k, lastOf (nls s 0) s.length k, 0) := by unfold spanV; rw [if_neg (by rw [← HN.out]; exact hline), Int.toNat_natCast]
    obtain ⟨l, hl⟩ := get_some (xs := linesOf s) (k := k) (by rw [linesOf_len, ← HN.out]; omega)
    obtain ⟨hg, g1, g2, g3⟩ := linesOf_get s k (by rw [← HN.out]; exact hk)
    obtain ⟨hlen, _⟩ := linesOf_lenOf s k l hl
    have HL := Lib.hid hl
    have HF : Hid (¬ ((k : Int) < 0 ∨ ((nls s 0).length : Int) < (k : Int))) := by rw [← HN.out]; exact hline
    have HOF : Hid (l = (s.take (lastOf (nls s 0) s.length k).toNat).drop (firstOf (nls s 0) k).toNat) := by rw [hl] at hg; cases hg; rfl
    have HFi := Lib.hid fun w => refFirst_any s k w (by rw [← HN.out]; exact hk) (by omega)
    have HE := Lib.hid hE
    obtain ⟨x, y, HAt, hcol⟩ : ∃ x y : Int, Hid (atV (nls s 0) s.length k col = (x, y)) ∧ ((col < 0 ∧ x = 0 ∧ y = 1) ∨ (¬ col < 0 ∧ (l.length : Int) < col ∧ x = 0 ∧ y = 1) ∨ (¬ col < 0 ∧ ¬ (l.length : Int) < col ∧ x = firstOf (nls s 0) k + col ∧ y = 0)) := by
      refine ⟨(atV (nls s 0) s.length k col).1, (atV (nls s 0) s.length k col).2, rfl, ?_⟩
      unfold atV
      rw [hE]
      simp only
      by_cases c1 : col < 0
      · rw [if_pos (by omega)]; exact .inl ⟨c1, rfl, rfl⟩
      · by_cases c2 : (l.length : Int) < col
        · rw [if_pos (by omega)]; exact .inr (.inl ⟨c1, c2, rfl, rfl⟩)
        · rw [if_neg (by omega)]; exact .inr (.inr ⟨c1, c2, rfl, rfl⟩)
    have HOf := Lib.hid fun w => show Calls Try.prog 44 #[.string (B s), .int .i64 k] w fun e w' => e = .returned (.tuple #[.string (B l), .int .i64 0]) ∧ Below w.heap.size w w' from (linesOf_any s k w (by omega)).mono fun e w' h => ⟨by rw [h.1, if_neg HF.out, Int.toNat_natCast, ← HOF.out], h.2⟩
    have hl200 : l.length ≤ 200 := by omega
    clear hE hl hg hline hlen HOF
    have hk1 : decide ((n : Int) + 1 ≤ (k : Int)) = false := no (by omega)
    generalize firstOf (nls s 0) k = f at *
    generalize lastOf (nls s 0) s.length k = q at *
    rcases hcol with ⟨c1, rfl, rfl⟩ | ⟨c1, c2, rfl, rfl⟩ | ⟨c1, c2, rfl, rfl⟩ <;> rcases hat with ⟨h1, rfl, rfl, rfl⟩ | ⟨h1, h2, rfl, rfl, rfl⟩ | ⟨h1, h2⟩
    all_goals
      (try replace h1 := no h1)
      (try replace h2 := no h2)
      (try (have c3 : col ≤ 200 := by omega))
      (try (have c4 : 0 ≤ col := by omega))
      (try replace c1 := no c1)
      (try replace c2 := no c2)
      go_enter Try.func11, Try.ntmps11
      go_wp2_with (first
        | (go_at_call 36; refine (awake03_any _).mono ?_; rintro e w' ⟨rfl, hb⟩; obtain ⟨g, rfl⟩ := to_grow hb; clear hb)
        | (go_at_call 37; refine (HX0.out _).mono ?_; rintro e w1 ⟨xb, lv, rfl, hx, hb⟩; have HX := Lib.hid hx; have HB := Lib.hid hb; clear hx hb)
        | (go_at_call 41; refine (right_any _ _ _ _ s HX.out (by omega)).mono ?_; rintro e w2 ⟨rfl, hb⟩; have HX2 := Lib.hid (HX.out.below hb); have HB2 := Lib.hid (below_then HB.out hb); clear hb)
        | (go_at_call 38; refine (refLines_any s _ (by omega)).mono ?_; rintro e w3 ⟨v, rfl, ho, hb⟩; rw [linesOf_len, ← HN.out] at ho; obtain ⟨g, off, c, rfl, q1, q2, q3, q4⟩ := ho.form; obtain ⟨_, y1, y2, _⟩ := ho.cellOk k (by omega); rw [HL.out] at y1; cases y1; have HX3 := Lib.hid (HX2.out.below hb); have HB3 := Lib.hid (below_then HB2.out hb); clear ho hb)
        | (go_at_call 42; refine (atIdx_any _ _ _ _ _ _ k col HX3.out (by have := HN.out; omega) (by omega)).mono ?_; rintro e w' ⟨he, rfl⟩; rw [HAt.out] at he; simp only at he; subst he)
        | (go_at_call 43; refine (span_any _ _ _ _ _ _ k HX3.out (by have := HN.out; omega) (by omega)).mono ?_; rintro e w' ⟨he, rfl⟩; rw [HE.out] at he; simp only at he; subst he)
        | (go_at_call 44; refine (HOf.out _).mono ?_; rintro e w4 ⟨rfl, hb⟩; have y3 := (hb.cell (p := ⟨g, off + k, none⟩) q2).trans y2; have HX4 := Lib.hid (HX3.out.below hb); have HB4 := Lib.hid (below_then HB3.out hb); clear hb)
        | (go_at_call 45; refine (HW.out _ _ _ _ HX4.out).mono ?_; rintro e w' ⟨rfl, rfl⟩)
        | (go_at_call 40; refine (HFi.out _).mono ?_; rintro e w' ⟨rfl, rfl⟩))
      go_ret
      exact ⟨rfl, below_then (by (repeat (first | exact Below.refl _ _ | assumption | with_reducible refine below_alloc ?_ _ | with_reducible refine below_grow ?_ _ | with_reducible refine below_drewN ?_ _ | with_reducible refine below_drew ?_ | with_reducible refine below_setCell ?_ (by first | (dsimp only; omega) | (simp; done) | (simp; omega)) _))) HB4.out⟩
end Go.Proofs.Ytkinjjgaecbogaa.linesTell
