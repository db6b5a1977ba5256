/-
  The walk of the law LinesNear: it returns true, whatever its arguments. Conditions: none (arguments as the row reads them).
-/
import Derived.Test.YtkinjjgaecbogaaLines6
import Derived.Test.YtkinjjgaecbogaaOpen
namespace Go.Proofs.Ytkinjjgaecbogaa.linesNear
open Go.ChangeShapes Go.WideShapes Go.ChangeAt Go.RowKit
set_option maxRecDepth 100000
set_option maxHeartbeats 1600000 in
theorem walk {H : Type} (enc : TypeId × Value → H) (w : World) (base : Nat) {v0 v1 v2 : Value} {d0 d1 d2 : DataW H} {p0 p1 p2 : List MemPlace}
    (h0 : DataW.Trod enc Try.prog w 0 (fun _ => true) true 9 v0 d0 p0) (k0 : Value.okWide Try.prog w .any base 9 v0)
    (h1 : DataW.Trod enc Try.prog w 0 (fun _ => true) true 3 v1 d1 p1) (k1 : Value.okWide Try.prog w .any base 3 v1)
    (h2 : DataW.Trod enc Try.prog w 0 (fun _ => true) true 3 v2 d2 p2) (k2 : Value.okWide Try.prog w .any base 3 v2) :
    Calls Try.prog 10 #[v0, v1, v2] w fun e w' => e = .returned (.bool true) ∧ Below w.heap.size w w' := by
  obtain ⟨s, rfl, hs⟩ := open_text h0 k0
  obtain ⟨line, rfl, hl1, hl2⟩ := open_num h1 k1
  obtain ⟨col, rfl, hc1, hc2⟩ := open_num h2 k2
  clear h0 k0 h1 k1 h2 k2
  by_cases l1 : 200 < s.length
  · go_enter Try.func10, Try.ntmps10
    go_wp2_with (first | (go_at_call 36; refine (awake03_any _).mono ?_; rintro e w' ⟨rfl, hb⟩; obtain ⟨g, rfl⟩ := to_grow hb; clear hb))
    go_ret
    exact ⟨rfl, by (repeat (first | exact Below.refl _ _ | assumption | with_reducible refine below_alloc ?_ _ | with_reducible refine below_grow ?_ _ | with_reducible refine below_drewN ?_ _ | with_reducible refine below_drew ?_ | with_reducible refine below_setCell ?_ (by first | (dsimp only; omega) | (simp; done) | (simp; omega)) _))⟩
  have b1 : s.length ≤ 200 := by omega
  clear l1 hs
  obtain ⟨n, hn⟩ : ∃ n, n = (nls s 0).length := ⟨_, rfl⟩
  have hnl : n ≤ 200 := by have := nls_len s 0; omega
  have HN := Lib.hid hn
  have HX0 := Lib.hid (newIdx_any s · (by omega))
  -- the line that is meant
  obtain ⟨k, hk⟩ : ∃ k : Nat, min (max line 0) (n : Int) = k := ⟨(min (max line 0) (n : Int)).toNat, by omega⟩
  have hkn : k ≤ n := by omega
  have hE : spanV (nls s 0) s.length k = (firstOf (nls s 0) k, lastOf (nls s 0) s.length k, 0) := by unfold spanV; rw [if_neg (by omega), Int.toNat_natCast]
  obtain ⟨l, hl⟩ := get_some (xs := linesOf s) (k := k) (by rw [linesOf_len, ← hn]; omega)
  obtain ⟨hg, g1, g2, g3⟩ := linesOf_get s k (by rw [← hn]; exact hkn)
  obtain ⟨hlen, _⟩ := linesOf_lenOf s k l hl
  have hl200 : l.length ≤ 200 := by omega
  have HL := Lib.hid hl
  have HFi := Lib.hid fun w => refFirst_any s k w (by rw [← hn]; exact hkn) (by omega)
  obtain ⟨z, hz⟩ : ∃ z : Int, min (max col 0) (l.length : Int) = z := ⟨_, rfl⟩
  have hNe : nearV (nls s 0) s.length line col = firstOf (nls s 0) k + z := by
    unfold nearV
    rw [← hn, hk, hE]
    simp only
    rw [← hlen, hz]
  have HNe := Lib.hid fun w b0 xb lv (h : IdxAt w b0 xb lv s.length (nls s 0)) => show Calls Try.prog 39 #[.pointer (some ⟨xb, 0, none⟩), .int .i64 line, .int .i64 col] w fun e w' => e = .returned (.int .i64 (firstOf (nls s 0) k + z)) ∧ w = w' from
    (nearIdx_any w b0 xb s.length lv (nls s 0) line col h (by omega) (by omega) (by rw [← hn, hk, hE]; exact g2) hc1 hc2 hl1 hl2).mono fun e w' h => by rw [hNe] at h; exact h
  clear hNe hE hl hg hlen hn
  generalize firstOf (nls s 0) k = f at *
  have Hk := Lib.hid hk
  have Hz := Lib.hid hz
  have hz0 : 0 ≤ z := by omega
  have hz1 : z ≤ 200 := by omega
  have wz : IntKind.i64.wrap (f + z) = f + z := IntWalk.i64_in _ (by omega)
  have hline : (line < 0 ∧ k = 0) ∨ (0 ≤ line ∧ (n : Int) < line ∧ k = n) ∨ (0 ≤ line ∧ line ≤ n ∧ line = k) := by omega
  have hcol : (col < 0 ∧ z = 0) ∨ (0 ≤ col ∧ (l.length : Int) < col ∧ z = l.length) ∨ (0 ≤ col ∧ col ≤ l.length ∧ col = z) := by omega
  clear hk hz
  rcases hline with ⟨m1, rfl⟩ | ⟨m1, m2, rfl⟩ | ⟨m1, m2, rfl⟩ <;> rcases hcol with ⟨c1, rfl⟩ | ⟨c1, c2, rfl⟩ | ⟨c1, c2, rfl⟩
  all_goals
    go_enter Try.func10, Try.ntmps10
    go_wp2_with (first
      | (go_at_call 36; refine (awake03_any _).mono ?_; rintro e w' ⟨rfl, hb⟩; obtain ⟨g, rfl⟩ := to_grow hb; clear hb)
      | (go_at_call 37; refine (HX0.out _).mono ?_; rintro e w1 ⟨xb, lv, rfl, hx, hb⟩; have HX := Lib.hid hx; have HB := Lib.hid hb; clear hx hb)
      | (go_at_call 38; refine (refLines_any s _ (by omega)).mono ?_; rintro e w3 ⟨v, rfl, ho, hb⟩; rw [linesOf_len, ← HN.out] at ho; obtain ⟨g, off, c, rfl, q1, q2, q3, q4⟩ := ho.form; (first | (obtain ⟨_, y1, y2, _⟩ := ho.cellOk 0 (by omega); rw [HL.out] at y1; rw [Nat.add_zero] at y2; cases y1) | (obtain ⟨_, y1, y2, _⟩ := ho.cellOk k (by omega); rw [HL.out] at y1; cases y1)); have HX3 := Lib.hid (HX.out.below hb); have HB3 := Lib.hid (below_then HB.out hb); haveI : Old w3 g := ⟨q2⟩; clear ho hb))
    (refine wp_region_grow (by kernel_rfl) (by kernel_rfl) ?_; (repeat (go_big_quiet_step ((first | (go_at_call 39; exact grow_same (HNe.out _ _ _ _ (HX3.out.below (grow_below _ _)))) | (go_at_call 40; exact grow_same (HFi.out _)))))); refine wpQuiet_nil ?_; intro _ hw'; obtain ⟨gq, hw''⟩ := hw'; subst hw'')
    go_wp2
    go_ret
    exact ⟨rfl, below_then (by (repeat (first | exact Below.refl _ _ | assumption | with_reducible refine below_alloc ?_ _ | with_reducible refine below_grow ?_ _ | with_reducible refine below_drewN ?_ _ | with_reducible refine below_drew ?_ | with_reducible refine below_setCell ?_ (by first | (dsimp only; omega) | (simp; done) | (simp; omega)) _))) (below_then HB3.out (by (repeat (first | exact Below.refl _ _ | assumption | with_reducible refine below_alloc ?_ _ | with_reducible refine below_grow ?_ _ | with_reducible refine below_drewN ?_ _ | with_reducible refine below_drew ?_ | with_reducible refine below_setCell ?_ (by first | (dsimp only; omega) | (simp; done) | (simp; omega)) _))))⟩
end Go.Proofs.Ytkinjjgaecbogaa.linesNear
