/-
  The walk of (*hist.Hist).Walk.
-/
import Derived.Test.YtkinjjgaecbogaaHist6
namespace Go.Proofs.Ytkinjjgaecbogaa
open Go.ChangeShapes Go.WideShapes Go.Deep Go.RowKit
set_option maxRecDepth 100000
def WalkPost (xs : List (List UInt8)) (now : List UInt8) (w : World) (e : Ending) (w' : World) : Prop :=
  ∃ pb lv, e = .returned (.pointer (some ⟨pb, 0, none⟩)) ∧ WalkAt w' w.heap.size pb lv (xs ++ [now]) xs.length ∧ Below w.heap.size w w'
theorem hold_of {w w' : World} {hb j : Nat} {lv : Value} (hc : w.cell? ⟨hb, j, none⟩ = some lv) (hlt : hb < w.heap.size) (h : Below w.heap.size w w') : w'.cell? ⟨hb, j, none⟩ = some lv ∧ Below w.heap.size w w' :=
  ⟨(h.cell (p := ⟨hb, j, none⟩) hlt).trans hc, h⟩
theorem below_then {w w' w2 : World} (h : Below w.heap.size w w') (k : Below w'.heap.size w' w2) : Below w.heap.size w w2 := h.trans (k.mono h.size)
theorem walk_box {w : World} {b0 g off c : Nat} {xs : List (List UInt8)} {now : List UInt8} (t : TypeId) (h : Own w b0 1 (.slice (some ⟨g, off, none⟩) (xs.length + 1) c) (xs.length + 1) (xs.flatMap strC ++ [.string (B now)])) (hg : g < w.heap.size) (hb : b0 ≤ w.heap.size) :
    WalkAt (w.alloc (.cells #[.slice (some ⟨g, off, none⟩) (xs.length + 1) c, .int .i64 xs.length] t)) b0 w.heap.size (.slice (some ⟨g, off, none⟩) (xs.length + 1) c) (xs ++ [now]) xs.length := by
  refine ⟨by simp, hb, by go_simp, by go_simp, fun j => by simp [go_sem], ?_, by simp [Value.ownBlock]; omega⟩
  have := h.below (below_alloc (Below.refl _ _) (.cells #[.slice (some ⟨g, off, none⟩) (xs.length + 1) c, .int .i64 xs.length] t))
  rw [List.flatMap_append, List.length_append]
  exact this
set_option maxHeartbeats 3200000 in
theorem walk_any (w : World) (b0 hb : Nat) (lv : Value) (most : Int) (xs : List (List UInt8)) (now : List UInt8) (h : HistAt w b0 hb lv most xs) (hx : xs.length ≤ 1048575) :
    Calls Try.prog 23 #[.pointer (some ⟨hb, 0, none⟩), .string (B now)] w (WalkPost xs now w) := by
  obtain ⟨i0, hi0, hz00, hz01, hz02⟩ := info_parts info_str
  have hs : Sl w strC 1 lv xs := h.own.sl strC_len rfl
  obtain ⟨Al, cl, rfl, -, -, -, -⟩ := hs
  have hc1 := h.c1
  have HH := Lib.hid h
  have hlt := h.lt
  have hbw := Below.refl w.heap.size w
  haveI : Old w hb := ⟨hlt⟩
  clear h
  go_enter Try.func23, Try.ntmps23
  go_wp2
  go_region_held3 (fun w' => w'.cell? ⟨hb, 1, none⟩ = some (.slice Al xs.length cl) ∧ Below w.heap.size w w')
    (first | assumption | (refine hold_of hc1 hlt ?_; first | assumption | exact below_drew (by assumption) | exact below_alloc (And.right (by assumption)) _ | exact below_alloc (by assumption) _))
    (first | (go_at_call 22; refine (lines_any _ _ _ _ _ _ (HH.out.below (And.right (by assumption))) (by omega)).mono ?_; rintro e w3 ⟨v3, rfl, ho3, hb3⟩; have hb4 := below_then (And.right (by assumption)) hb3; have ho3 : Own w3 w.heap.size 1 v3 xs.length (xs.flatMap strC) := ho3.mono (by first | exact Nat.le_refl _ | (simp; done) | (simp; omega)); have hz4 := hb4.size; have hz3 := hb3.size) | ((refine step_append_src _ rfl (.tmp 6) (.tmp 8) _ rfl w.heap.size 9 i0 _ 1 16 Try.underlying22 hi0 hz00 hz01 hz02 rfl (by decide) _ xs.length (xs.flatMap strC) rfl ((by first | assumption | exact (Own.below (by assumption) (by (repeat (first | exact Below.refl _ _ | assumption | with_reducible refine below_alloc ?_ _ | with_reducible refine below_grow ?_ _ | with_reducible refine below_drewN ?_ _ | with_reducible refine below_drew ?_ | with_reducible refine below_setCell ?_ (by first | (dsimp only; omega) | (simp; done) | (simp; omega)) _)))))) _ 1 [.string (B now)] rfl rfl (by first | exact Src.one _ _ _ _ | exact ((Src.one _ _ _ _).below (below_drew (Below.refl _ _))).below (by assumption)) (by simp [Value.oneCell']) (by unfold maxLen; omega) (by omega) (by first | (simp; done) | omega | (simp; omega)) ?_; intro v5 w5 hown5 hg5 hat5); have hb5 := below_keeps (And.right (by assumption)) hg5 (fun k hk => hk.2); have hz5 := hb5.size; obtain ⟨g5, o5, c5, rfl, q1, q2, q3, q4⟩ := hown5.form; have Hown5 := Lib.hid hown5; clear hown5 hg5 hat5))
  all_goals
    go_wp2
    go_ret
    exact ⟨_, _, rfl, walk_box _ Hown5.out (by assumption) (by assumption), And.right (by assumption)⟩
theorem StepPost.form {b0 pb : Nat} {lv : Value} {ys : List (List UInt8)} {at_ : Nat} {now : List UInt8} {by_ : Int} {w w' : World} {e : Ending} (h : StepPost b0 pb lv ys at_ now by_ w e w') : ∃ t k, e = .returned (.tuple #[.string (B t), .bool k]) := by
  by_cases h1 : (at_ : Int) + by_ < 0 ∨ (ys.length : Int) ≤ (at_ : Int) + by_
  · exact ⟨_, _, (h.no h1).1⟩
  · obtain ⟨q, hq⟩ := Int.eq_ofNat_of_zero_le (show 0 ≤ (at_ : Int) + by_ by omega)
    exact ⟨_, _, (h.yes q hq (by omega)).1⟩
theorem up_any (w : World) (b0 pb : Nat) (lv : Value) (ys : List (List UInt8)) (at_ : Nat) (now : List UInt8) (h : WalkAt w b0 pb lv ys at_) (ha : at_ < ys.length) (hl : ys.length ≤ 1048576) :
    Calls Try.prog 25 #[.pointer (some ⟨pb, 0, none⟩), .string (B now)] w (StepPost b0 pb lv ys at_ now (-1) w) := by
  have HS := Lib.hid (step_any w b0 pb lv ys at_ now (-1) h ha hl (.inr rfl))
  clear h
  go_enter Try.func25, Try.ntmps25
  go_wp2_with (go_at_call 67; refine HS.out.mono ?_; intro e w' h; obtain ⟨t, k, rfl⟩ := h.form)
  go_ret2
  exact h
theorem down_any (w : World) (b0 pb : Nat) (lv : Value) (ys : List (List UInt8)) (at_ : Nat) (now : List UInt8) (h : WalkAt w b0 pb lv ys at_) (ha : at_ < ys.length) (hl : ys.length ≤ 1048576) :
    Calls Try.prog 26 #[.pointer (some ⟨pb, 0, none⟩), .string (B now)] w (StepPost b0 pb lv ys at_ now 1 w) := by
  have HS := Lib.hid (step_any w b0 pb lv ys at_ now 1 h ha hl (.inl rfl))
  clear h
  go_enter Try.func26, Try.ntmps26
  go_wp2_with (go_at_call 67; refine HS.out.mono ?_; intro e w' h; obtain ⟨t, k, rfl⟩ := h.form)
  go_ret2
  exact h
end Go.Proofs.Ytkinjjgaecbogaa
