/-
  The walks of layer 30 (hist), on: Walk, its steps.
-/
import Derived.Test.YteojepadhonbiaaHist5
import Derived.Deep.RegionHeld3
import Derived.Deep.AppendLies
namespace Go.Proofs.Yteojepadhonbiaa
open Go.ChangeShapes Go.WideShapes Go.Deep Go.RowKit
set_option maxRecDepth 100000
/-- A walk in memory: the texts, and the place. -/
structure WalkAt (w : World) (b0 pb : Nat) (lv : Value) (ys : List (List UInt8)) (at_ : Nat) : Prop where
  lt : pb < w.heap.size
  ge : b0 ≤ pb
  c0 : w.cell? ⟨pb, 0, none⟩ = some lv
  c1 : w.cell? ⟨pb, 1, none⟩ = some (.int .i64 at_)
  f0 : ∀ j, w.frozen? ⟨pb, j, none⟩ = false
  own : Own w b0 1 lv ys.length (ys.flatMap strC)
  ne : lv.ownBlock ≠ some pb
theorem WalkAt.below {w w' : World} {b0 pb : Nat} {lv : Value} {ys : List (List UInt8)} {at_ : Nat} (h : WalkAt w b0 pb lv ys at_) (hb' : Below w.heap.size w w') : WalkAt w' b0 pb lv ys at_ :=
  ⟨Nat.lt_of_lt_of_le h.lt hb'.size, h.ge, (hb'.cell (p := ⟨pb, 0, none⟩) h.lt).trans h.c0, (hb'.cell (p := ⟨pb, 1, none⟩) h.lt).trans h.c1, fun j => (hb'.frozen (p := ⟨pb, j, none⟩) h.lt).trans (h.f0 j), h.own.below hb', h.ne⟩
theorem Own.set {w : World} {b0 g off n c k : Nat} {ys : List (List UInt8)} {y : List UInt8} (h : Own w b0 1 (.slice (some ⟨g, off, none⟩) n c) n (ys.flatMap strC)) (hk : k < n) :
    Own (w.setCell ⟨g, off + k, none⟩ (.string (B y))) b0 1 (.slice (some ⟨g, off, none⟩) n c) n ((ys.set k y).flatMap strC) := by
  have hl := h.1
  rw [strC_flat, Nat.mul_one] at hl
  refine ⟨by rw [strC_flat, Nat.mul_one, List.length_set]; exact hl, ?_⟩
  rcases h.2 with ⟨h0, _⟩ | ⟨g', off', c', e, h1, h2, h3, h4, h5, h6⟩
  · omega
  · simp only [Value.slice.injEq, Option.some.injEq, Addr.mk.injEq, and_true, true_and] at e
    obtain ⟨⟨rfl, rfl⟩, rfl⟩ := e
    refine .inr ⟨g, off, c, rfl, h1, by simpa [World.setCell] using h2, h3, h4, fun j hj => ⟨?_, ?_⟩, fun j u hj => ?_⟩
    · by_cases hjk : j = k
      · subst hjk
        rw [World.cell?_setCell_same' _ _ _ (h5 j hj).1]; rfl
      · rw [World.cell?_setCell_other _ _ _ _ (by first | (simp; done) | (simp; omega))]; exact (h5 j hj).1
    · rw [World.frozen?_setCell]; exact (h5 j hj).2
    · rw [flat_get, List.getElem?_set] at hj
      by_cases hjk : k = j
      · subst hjk
        rw [if_pos rfl, if_pos (by omega)] at hj
        simp at hj
        subst hj
        exact World.cell?_setCell_same' _ _ _ (h5 k (by omega)).1
      · rw [if_neg hjk] at hj
        rw [World.cell?_setCell_other _ _ _ _ (by first | (simp; done) | (simp; omega))]
        exact h6 j u (by rw [flat_get]; exact hj)
theorem walk_set {w : World} {b0 pb g off n c k at_ : Nat} {ys : List (List UInt8)} {y : List UInt8} (hn : n = ys.length) (h : WalkAt w b0 pb (.slice (some ⟨g, off, none⟩) n c) ys at_) (hk : k < n) : WalkAt (w.setCell ⟨g, off + k, none⟩ (.string (B y))) b0 pb (.slice (some ⟨g, off, none⟩) n c) (ys.set k y) at_ := by
  subst hn
  have hne : g ≠ pb := by simpa [Value.ownBlock] using h.ne
  exact ⟨by simpa [World.setCell] using h.lt, h.ge, by rw [World.cell?_setCell_other _ _ _ _ (by first | (simp; done) | (simp; omega))]; exact h.c0, by rw [World.cell?_setCell_other _ _ _ _ (by first | (simp; done) | (simp; omega))]; exact h.c1, fun j => by rw [World.frozen?_setCell]; exact h.f0 j, by rw [List.length_set]; exact Own.set h.own hk, h.ne⟩
theorem walk_to {w : World} {b0 pb at_ q : Nat} {lv : Value} {ys : List (List UInt8)} (h : WalkAt w b0 pb lv ys at_) : WalkAt (w.setCell ⟨pb, 1, none⟩ (.int .i64 q)) b0 pb lv ys q :=
  ⟨by simpa [World.setCell] using h.lt, h.ge, by rw [World.cell?_setCell_other _ _ _ _ (by simp)]; exact h.c0, World.cell?_setCell_same' _ _ _ (by rw [h.c1]; rfl), fun j => by rw [World.frozen?_setCell]; exact h.f0 j, h.own.keeps (Keeps.setCell (F := fun k => k = pb) w (a := ⟨pb, 1, none⟩) rfl _) (fun k hk _ e => h.ne (by rw [hk, e])), h.ne⟩
structure StepPost (b0 pb : Nat) (lv : Value) (ys : List (List UInt8)) (at_ : Nat) (now : List UInt8) (by_ : Int) (w : World) (e : Ending) (w' : World) : Prop where
  no : ((at_ : Int) + by_ < 0 ∨ (ys.length : Int) ≤ (at_ : Int) + by_) → e = .returned (.tuple #[.string (B []), .bool false]) ∧ WalkAt w' b0 pb lv (ys.set at_ now) at_
  yes : ∀ q : Nat, (at_ : Int) + by_ = q → q < ys.length → e = .returned (.tuple #[.string (B ((ys.set at_ now)[q]?.getD [])), .bool true]) ∧ WalkAt w' b0 pb lv (ys.set at_ now) q
  k : Keeps (fun k => k = pb ∨ (lv.ownBlock = some k ∧ b0 ≤ k)) w w'
end Go.Proofs.Yteojepadhonbiaa
