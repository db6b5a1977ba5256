/-
  The walks of layer 30 (hist), on: Walk, its steps.
-/
import Derived.Test.YtkinjjgaecbogaaHist5
import Derived.Deep.RegionHeld3
import Derived.Deep.AppendLies
namespace Go.Proofs.Ytkinjjgaecbogaa
open Go.ChangeShapes Go.WideShapes Go.Deep Go.RowKit
set_option maxRecDepth 100000
/-- A walk in memory: the texts, and the place. -/
structure WalkAt (w : World) (b0 pb : Nat) (lv : Value) (ys : List (List UInt8)) (at_ : Nat) : Prop where
  lt : pb < w.heap.size
  ge : b0 ≤ pb
  c0 : w.cell? ⟨pb, 0, none⟩ = some lv
  c1 : w.cell? ⟨pb, 1, none⟩ = some (.int .i64 at_)
  f0 : ∀ j, w.frozen? ⟨pb, j, none⟩ = false
  own : Own w b0 1 lv ys.length (ys.flatMap strC)
  ne : lv.ownBlock ≠ some pb
theorem WalkAt.below {w w' : World} {b0 pb : Nat} {lv : Value} {ys : List (List UInt8)} {at_ : Nat} (h : WalkAt w b0 pb lv ys at_) (hb' : Below w.heap.size w w') : WalkAt w' b0 pb lv ys at_ :=
  ⟨Nat.lt_of_lt_of_le h.lt hb'.size, h.ge, (hb'.cell (p := ⟨pb, 0, none⟩) h.lt).trans h.c0, (hb'.cell (p := ⟨pb, 1, none⟩) h.lt).trans h.c1, fun j => (hb'.frozen (p := ⟨pb, j, none⟩) h.lt).trans (h.f0 j), h.own.below hb', h.ne⟩
theorem at_any (w : World) (b0 pb : Nat) (lv : Value) (ys : List (List UInt8)) (at_ : Nat) (h : WalkAt w b0 pb lv ys at_) :
    Calls Try.prog 24 #[.pointer (some ⟨pb, 0, none⟩)] w fun e w' => e = .returned (.int .i64 at_) ∧ w = w' := by
  obtain ⟨lt, ge, c0, c1, f0, own, ne⟩ := h
  clear own f0 ne c0
  go_enter Try.func24, Try.ntmps24
  go_wp2
  go_ret
  exact ⟨rfl, rfl⟩
theorem flat_get (ys : List (List UInt8)) (j : Nat) : (ys.flatMap strC)[j]? = (ys[j]?).map fun y => Value.string (B y) := by
  induction ys generalizing j with
  | nil => simp
  | cons y ys ih =>
    cases j with
    | zero => simp [strC]
    | succ j => simpa [strC] using ih j
theorem Own.cellOk {w : World} {b0 g off n c : Nat} {ys : List (List UInt8)} (h : Own w b0 1 (.slice (some ⟨g, off, none⟩) n c) n (ys.flatMap strC)) (k : Nat) (hk : k < n) :
    ∃ y, ys[k]? = some y ∧ w.cell? ⟨g, off + k, none⟩ = some (.string (B y)) ∧ w.frozen? ⟨g, off + k, none⟩ = false := by
  have hl := h.1
  rw [strC_flat, Nat.mul_one] at hl
  rcases h.2 with ⟨h0, _⟩ | ⟨g', off', c', e, h1, h2, h3, h4, h5, h6⟩
  · omega
  · simp only [Value.slice.injEq, Option.some.injEq, Addr.mk.injEq, and_true, true_and] at e
    obtain ⟨⟨rfl, rfl⟩, rfl⟩ := e
    have hy : ys[k]? = some (ys[k]'(by omega)) := List.getElem?_eq_getElem (by omega)
    exact ⟨_, hy, h6 k _ (by rw [flat_get, hy]; rfl), (h5 k (by omega)).2⟩
theorem Own.set {w : World} {b0 g off n c k : Nat} {ys : List (List UInt8)} {y : List UInt8} (h : Own w b0 1 (.slice (some ⟨g, off, none⟩) n c) n (ys.flatMap strC)) (hk : k < n) :
    Own (w.setCell ⟨g, off + k, none⟩ (.string (B y))) b0 1 (.slice (some ⟨g, off, none⟩) n c) n ((ys.set k y).flatMap strC) := by
  have hl := h.1
  rw [strC_flat, Nat.mul_one] at hl
  refine ⟨by rw [strC_flat, Nat.mul_one, List.length_set]; exact hl, ?_⟩
  rcases h.2 with ⟨h0, _⟩ | ⟨g', off', c', e, h1, h2, h3, h4, h5, h6⟩
  · omega
  · simp only [Value.slice.injEq, Option.some.injEq, Addr.mk.injEq, and_true, true_and] at e
    obtain ⟨⟨rfl, rfl⟩, rfl⟩ := e
    refine .inr ⟨g, off, c, rfl, h1, by simpa [World.setCell] using h2, h3, h4, fun j hj => ⟨?_, ?_⟩, fun j u hj => ?_⟩
    · by_cases hjk : j = k
      · subst hjk
        rw [World.cell?_setCell_same' _ _ _ (h5 j hj).1]; rfl
      · rw [World.cell?_setCell_other _ _ _ _ (by first | (simp; done) | (simp; omega))]; exact (h5 j hj).1
    · rw [World.frozen?_setCell]; exact (h5 j hj).2
    · rw [flat_get, List.getElem?_set] at hj
      by_cases hjk : k = j
      · subst hjk
        rw [if_pos rfl, if_pos (by omega)] at hj
        simp at hj
        subst hj
        exact World.cell?_setCell_same' _ _ _ (h5 k (by omega)).1
      · rw [if_neg hjk] at hj
        rw [World.cell?_setCell_other _ _ _ _ (by first | (simp; done) | (simp; omega))]
        exact h6 j u (by rw [flat_get]; exact hj)
theorem walk_set {w : World} {b0 pb g off n c k at_ : Nat} {ys : List (List UInt8)} {y : List UInt8} (hn : n = ys.length) (h : WalkAt w b0 pb (.slice (some ⟨g, off, none⟩) n c) ys at_) (hk : k < n) : WalkAt (w.setCell ⟨g, off + k, none⟩ (.string (B y))) b0 pb (.slice (some ⟨g, off, none⟩) n c) (ys.set k y) at_ := by
  subst hn
  have hne : g ≠ pb := by simpa [Value.ownBlock] using h.ne
  exact ⟨by simpa [World.setCell] using h.lt, h.ge, by rw [World.cell?_setCell_other _ _ _ _ (by first | (simp; done) | (simp; omega))]; exact h.c0, by rw [World.cell?_setCell_other _ _ _ _ (by first | (simp; done) | (simp; omega))]; exact h.c1, fun j => by rw [World.frozen?_setCell]; exact h.f0 j, by rw [List.length_set]; exact Own.set h.own hk, h.ne⟩
theorem walk_to {w : World} {b0 pb at_ q : Nat} {lv : Value} {ys : List (List UInt8)} (h : WalkAt w b0 pb lv ys at_) : WalkAt (w.setCell ⟨pb, 1, none⟩ (.int .i64 q)) b0 pb lv ys q :=
  ⟨by simpa [World.setCell] using h.lt, h.ge, by rw [World.cell?_setCell_other _ _ _ _ (by simp)]; exact h.c0, World.cell?_setCell_same' _ _ _ (by rw [h.c1]; rfl), fun j => by rw [World.frozen?_setCell]; exact h.f0 j, h.own.keeps (Keeps.setCell (F := fun k => k = pb) w (a := ⟨pb, 1, none⟩) rfl _) (fun k hk _ e => h.ne (by rw [hk, e])), h.ne⟩
structure StepPost (b0 pb : Nat) (lv : Value) (ys : List (List UInt8)) (at_ : Nat) (now : List UInt8) (by_ : Int) (w : World) (e : Ending) (w' : World) : Prop where
  no : ((at_ : Int) + by_ < 0 ∨ (ys.length : Int) ≤ (at_ : Int) + by_) → e = .returned (.tuple #[.string (B []), .bool false]) ∧ WalkAt w' b0 pb lv (ys.set at_ now) at_
  yes : ∀ q : Nat, (at_ : Int) + by_ = q → q < ys.length → e = .returned (.tuple #[.string (B ((ys.set at_ now)[q]?.getD [])), .bool true]) ∧ WalkAt w' b0 pb lv (ys.set at_ now) q
  k : Keeps (fun k => k = pb ∨ (lv.ownBlock = some k ∧ b0 ≤ k)) w w'
set_option maxHeartbeats 1600000 in
theorem step_any (w : World) (b0 pb : Nat) (lv : Value) (ys : List (List UInt8)) (at_ : Nat) (now : List UInt8) (by_ : Int) (h : WalkAt w b0 pb lv ys at_) (ha : at_ < ys.length) (hl : ys.length ≤ 1048576) (hby : by_ = 1 ∨ by_ = -1) :
    Calls Try.prog 67 #[.pointer (some ⟨pb, 0, none⟩), .string (B now), .int .i64 by_] w (StepPost b0 pb lv ys at_ now by_ w) := by
  have HW := Lib.hid h
  obtain ⟨n, hn⟩ : ∃ n, n = ys.length := ⟨_, rfl⟩
  obtain ⟨lt, ge, c0, c1, f0, own, ne⟩ := h
  obtain ⟨g, off, c, rfl, g1, g2, g3, g4⟩ := own.form' (by omega)
  rw [← hn] at own c0 ne g3
  have hng : g ≠ pb := by simpa [Value.ownBlock] using ne
  obtain ⟨y0, _, k1, k2⟩ := own.cellOk at_ (by omega)
  have f1 := f0 1
  haveI : Old w pb := ⟨lt⟩
  haveI : Old w g := ⟨g2⟩
  have HN := Lib.hid hn
  have HO := Lib.hid own
  have HF := Lib.hid f0
  have n0 : ((n : Int) == 0) = false := by rw [beq_eq_false_iff_ne]; omega
  have i1 : (at_ : Int) < (n : Int) := by omega
  have i2 : (0 : Int) ≤ (at_ : Int) := by omega
  have i3 : n ≤ 1048576 := by omega
  clear hn own f0
  by_cases hno : (at_ : Int) + by_ < 0 ∨ (n : Int) ≤ (at_ : Int) + by_
  · have v1 : IntKind.i64.wrap ((at_ : Int) + by_) = (at_ : Int) + by_ := IntWalk.i64_in _ (by omega)
    have i4 : at_ < n := by omega
    have Hno := Lib.hid hno
    by_cases z1 : (at_ : Int) + by_ < 0
    · clear hno
      go_enter Try.func67, Try.ntmps67
      go_wp2
      (refine wp_region_grow_tail 10 (by kernel_rfl) (by kernel_rfl) ?_; simp only [List.take_succ_cons, List.take_zero, List.drop_succ_cons, List.drop_zero]; (repeat (go_big_quiet_step (fail))); refine wpQuiet_nil ?_; intro _ hw'; obtain ⟨gq, hw''⟩ := hw'; subst hw'')
      go_wp2
      go_ret2
      have hW := HW.out
      rw [← HN.out] at hW
      have h2 := walk_set (y := now) HN.out hW i4
      refine ⟨fun _ => ⟨rfl, by rw [← HN.out]; exact h2.below (grow_below _ _)⟩, fun q hq hqn => ?_, ?_⟩
      · have := Hno.out; have := HN.out; omega
      · rw [← HN.out]
        exact (Keeps.setCell w (a := ⟨g, off + at_, none⟩) (.inr ⟨rfl, g1⟩) _).trans (Keeps.of_below (grow_below _ _))
    · have z2 := no z1
      have z3 : (n : Int) ≤ (at_ : Int) + by_ := by omega
      clear hno
      go_enter Try.func67, Try.ntmps67
      go_wp2
      (refine wp_region_grow_tail 10 (by kernel_rfl) (by kernel_rfl) ?_; simp only [List.take_succ_cons, List.take_zero, List.drop_succ_cons, List.drop_zero]; (repeat (go_big_quiet_step (fail))); refine wpQuiet_nil ?_; intro _ hw'; obtain ⟨gq, hw''⟩ := hw'; subst hw'')
      go_wp2
      go_ret2
      have hW := HW.out
      rw [← HN.out] at hW
      have h2 := walk_set (y := now) HN.out hW i4
      refine ⟨fun _ => ⟨rfl, by rw [← HN.out]; exact h2.below (grow_below _ _)⟩, fun q hq hqn => ?_, ?_⟩
      · have := Hno.out; have := HN.out; omega
      · rw [← HN.out]
        exact (Keeps.setCell w (a := ⟨g, off + at_, none⟩) (.inr ⟨rfl, g1⟩) _).trans (Keeps.of_below (grow_below _ _))
  · obtain ⟨q, hq⟩ := Int.eq_ofNat_of_zero_le (show 0 ≤ (at_ : Int) + by_ by omega)
    have hqn : q < n := by omega
    have v1 : IntKind.i64.wrap ((at_ : Int) + by_) = (q : Int) := by rw [hq]; exact IntWalk.i64_in _ (by omega)
    clear hno
    have Hq := Lib.hid hq
    clear hq
    obtain ⟨z, hz, k3, _⟩ := (Own.set (y := now) (k := at_) HO.out (by omega)).cellOk q hqn
    have HZ := Lib.hid hz
    have i4 : at_ < n := by omega
    clear hz
    go_enter Try.func67, Try.ntmps67
    go_wp2
    (refine wp_region_grow_tail 10 (by kernel_rfl) (by kernel_rfl) ?_; simp only [List.take_succ_cons, List.take_zero, List.drop_succ_cons, List.drop_zero]; (repeat (go_big_quiet_step (fail))); refine wpQuiet_nil ?_; intro _ hw'; obtain ⟨gq, hw''⟩ := hw'; subst hw'')
    go_wp2
    go_ret2
    have hW := HW.out
    rw [← HN.out] at hW
    have h2 := walk_to (q := q) (walk_set (y := now) HN.out hW i4)
    refine ⟨fun h => ?_, fun q' hq' _ => ?_, ?_⟩
    · have := Hq.out; have := HN.out; omega
    · obtain rfl : q' = q := by have := Hq.out; omega
      exact ⟨by rw [HZ.out]; rfl, by rw [← HN.out]; exact h2.below (grow_below _ _)⟩
    · rw [← HN.out]
      exact ((Keeps.setCell w (a := ⟨g, off + at_, none⟩) (.inr ⟨rfl, g1⟩) _).trans (Keeps.setCell _ (a := ⟨pb, 1, none⟩) (.inl rfl) _)).trans (Keeps.of_below (grow_below _ _))
end Go.Proofs.Ytkinjjgaecbogaa
