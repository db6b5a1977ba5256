/-
  The walk of the laws of layer 2 (undo): awake. Conditions: none.
-/
import Derived.Test.YtkinjjgaecbogaaUndo6
namespace Go.Proofs.Ytkinjjgaecbogaa
open Go.ChangeShapes Go.WideShapes Go.Deep Go.RowKit
set_option maxRecDepth 100000
def stpA : Stp := ⟨⟨0, [], [97]⟩, 0, 1⟩
/-- A box that a journal's calls leave alone. -/
theorem Box5.undo {w w' : World} {rb jb : Nat} {v0 v1 v2 v3 v4 : Value} (h : Box5 w rb v0 v1 v2 v3 v4) (hk : Keeps (fun k => k = jb) w w') (hne : rb ≠ jb) : Box5 w' rb v0 v1 v2 v3 v4 := h.keeps hk hne
theorem Box5.below {w w' : World} {rb : Nat} {v0 v1 v2 v3 v4 : Value} (h : Box5 w rb v0 v1 v2 v3 v4) (hb : Below w.heap.size w w') : Box5 w' rb v0 v1 v2 v3 v4 := h.keeps (Keeps.of_below (F := fun _ => False) hb) id
theorem keeps_nil {jb b : Nat} {w w' : World} (h : Keeps (fun k => k = jb ∨ ((Value.slice none 0 0).ownBlock = some k ∧ b ≤ k)) w w') : Keeps (fun k => k = jb) w w' := h.weaken (fun k _ hf => hf.elim id (fun e => by cases e.1))
set_option maxHeartbeats 1600000 in
theorem awake02_any (w : World) : Calls Try.prog 49 #[] w fun e w' => e = .returned (.bool true) ∧ Below w.heap.size w w' := by
  have hkl : keepL 5 (([] : List Stp).take 0 ++ [stpA]) = [stpA] := rfl
  have HKL := Lib.hid hkl
  have hvl : stpA.val = .agg #[.int .i64 0, .string (B []), .string (B [97]), .int .i64 0, .int .i64 1] := rfl
  have HVL := Lib.hid hvl
  clear hkl hvl
  go_enter Try.func49, Try.ntmps49
  go_wp2_with (first
    | (go_at_call 51; refine (newJ_ok 5 _ (by omega) (by omega)).mono ?_; rintro e w1 ⟨rfl, hj, hb⟩; have HJ1 := Lib.hid hj; have HB1 := Lib.hid hb; have hz1 := hj.lt; clear hj hb)
    | (go_at_call 52; refine (push_a _ _ _ _ 5 [] 0 stpA false (HJ1.out.below (below_alloc (Below.refl _ _) (.cells #[.int .i64 0, .string (B []), .string (B [97]), .int .i64 0, .int .i64 1] 89))) (.inl rfl) (by simp) (by omega) (by omega)).mono ?_; rintro e w2 ⟨rfl, lv2, hj2, hk2⟩; rw [HKL.out] at hj2; replace hk2 := keeps_nil hk2; have HX2 := Lib.hid ((Box5.new w1 (.int .i64 0) (.string (B [])) (.string (B [97])) (.int .i64 0) (.int .i64 1) 89).undo hk2 (by omega)); have HB2 : Hid (Below w.heap.size w w2) := below_keeps (below_alloc HB1.out _) hk2 (fun k e => by omega); have HJ2 := Lib.hid hj2; have hz2 := hk2.size; simp only [World.size_alloc] at hz2; clear hj2 hk2)
    | (go_at_call 54; refine (undo_some _ _ _ _ _ [stpA] 0 stpA HJ2.out rfl (by simp)).mono ?_; rintro e w3 ⟨rfl, hj3, hk3⟩; have HX3 := Lib.hid (HX2.out.undo hk3 (by omega)); have HB3 : Hid (Below w.heap.size w w3) := below_keeps HB2.out hk3 (fun k e => by omega); have HJ3 := Lib.hid hj3; have hz3 := hk3.size; rw [HVL.out]; clear hj3 hk3)
    | (go_at_call 55; refine (redo_some _ _ _ _ _ [stpA] 0 stpA (HJ3.out.below (below_alloc (Below.refl _ _) (.cells #[.int .i64 0, .string (B []), .string (B [97]), .int .i64 0, .int .i64 1] 89))) rfl (by simp)).mono ?_; rintro e w4 ⟨rfl, hj4, hk4⟩; have hx4 := (HX3.out.below (below_alloc (Below.refl _ _) _)).undo hk4 (by omega); have ha4 := (Box5.new w3 (.int .i64 0) (.string (B [])) (.string (B [97])) (.int .i64 0) (.int .i64 1) 89).undo hk4 (by omega); have HB4 : Hid (Below w.heap.size w w4) := below_keeps (below_alloc HB3.out _) hk4 (fun k e => by omega); have HJ4 := Lib.hid hj4; have x0 := hx4.c0; have x1 := hx4.c1; have x2 := hx4.c2; have x3 := hx4.c3; have x4 := hx4.c4; have y0 := ha4.c0; have y1 := ha4.c1; have y2 := ha4.c2; have y3 := ha4.c3; have y4 := ha4.c4; haveI : Old w4 w1.heap.size := ⟨hx4.lt⟩; haveI : Old w4 w3.heap.size := ⟨ha4.lt⟩; rw [HVL.out]; clear hj4 hk4 hx4 ha4)
    | (go_at_call 57; refine (done_any _ _ _ _ _ [stpA] 1 (HJ4.out.below (below_alloc (Below.refl _ _) (.cells #[.int .i64 0, .string (B []), .string (B [97]), .int .i64 0, .int .i64 1] 89))) (by simp)).mono ?_; rintro e w5 ⟨v5, rfl, ho5, hb5⟩; obtain ⟨A5, c5, rfl, _⟩ := ho5.form0; have HB5 : Hid (Below w.heap.size w w5) := HB4.out.trans ((below_then (below_alloc (Below.refl _ _) _) hb5).mono HB4.out.size); simp only [List.take_succ_cons, List.take_zero, List.length_cons, List.length_nil, Nat.zero_add]; clear ho5 hb5))
  go_ret
  exact ⟨rfl, HB5.out⟩
end Go.Proofs.Ytkinjjgaecbogaa
