/-
  The walk of the reference's lines (layer 30), and what stands behind a round of adding.
-/
import Derived.Test.YteojepadhonbiaaHist7
namespace Go.Proofs.Yteojepadhonbiaa
open Go.ChangeShapes Go.WideShapes Go.Deep Go.RowKit
set_option maxRecDepth 100000
/-- The lines of a history of at most 50, these having been given. -/
def adds (ls : List (List UInt8)) : List (List UInt8) := ls.foldl (fun xs l => addL xs l 50) []
theorem addL_le (xs : List (List UInt8)) (line : List UInt8) (most : Nat) : (addL xs line most).length ≤ xs.length + 1 := by
  unfold addL
  split
  · split <;> simp
  · omega
theorem adds_snoc (ls : List (List UInt8)) (l : List UInt8) : adds (ls ++ [l]) = addL (adds ls) l 50 := by simp [adds, List.foldl_append]
theorem adds_le (ls : List (List UInt8)) (n : Nat) : (adds (ls.take n)).length ≤ n := by
  induction n with
  | zero => simp [adds]
  | succ n ih =>
    by_cases h : n < ls.length
    · rw [List.take_succ_eq_append_getElem h, adds_snoc]
      have := addL_le (adds (ls.take n)) ls[n] 50
      omega
    · rw [List.take_of_length_le (by omega)] at ih ⊢
      omega
theorem adds_take (ls : List (List UInt8)) (k : Nat) (x : List UInt8) (h : ls[k]? = some x) : adds (ls.take (k + 1)) = addL (adds (ls.take k)) x 50 := by
  obtain ⟨h1, rfl⟩ := List.getElem?_eq_some_iff.1 h
  rw [List.take_succ_eq_append_getElem h1, adds_snoc]
theorem Sl.getS {w : World} {A : Option Addr} {ls : List (List UInt8)} (HA : 0 < ls.length → ∃ b off, A = some ⟨b, off, none⟩ ∧ b < w.heap.size ∧ ∀ k x, ls[k]? = some x → ∀ j u, (strC x)[j]? = some u → w.cell? ⟨b, off + k * 1 + j, none⟩ = some u)
    {w' : World} (hbw : Below w.heap.size w w') (k : Nat) (y : List UInt8) (hy : ls[k]? = some y) : ∃ b off, A = some ⟨b, off, none⟩ ∧ w'.cell? ⟨b, off + k, none⟩ = some (.string (B y)) := by
  have hk := (List.getElem?_eq_some_iff.1 hy).1
  obtain ⟨b, off, rfl, hb, hc⟩ := HA (by omega)
  refine ⟨b, off, rfl, ?_⟩
  have := hc k _ hy 0 _ rfl
  rw [hbw.cell (p := ⟨b, off + k, none⟩) hb]
  simpa using this
def AddsPost (ls : List (List UInt8)) (w : World) (e : Ending) (w' : World) : Prop := ∃ u, e = .returned u ∧ Sl w' strC 1 u (adds ls) ∧ Below w.heap.size w w'
/-- The slice x lies apart from the history. -/
def Apart (w : World) (b0 hb : Nat) (lv x : Value) : Prop := ∀ j, x.ownBlock = some j → j < w.heap.size ∧ j ≠ hb ∧ ¬ (lv.ownBlock = some j ∧ b0 ≤ j)
/-- A history in memory, and a slice that reads as its lines. -/
structure Both (b0 : Nat) (w : World) (hb : Nat) (lv x : Value) (most : Int) (xs ys : List (List UInt8)) (wr : World) : Prop where
  h : HistAt wr b0 hb lv most xs
  sl : Sl wr strC 1 x ys
  a : Apart wr b0 hb lv x
  b : Below b0 w wr
theorem Both.add {b0 hb : Nat} {w w0 w1 : World} {lv lv1 x : Value} {most : Int} {xs ys zs : List (List UInt8)} (h : Both b0 w hb lv x most xs ys w0) (hw : b0 ≤ w.heap.size) (hh : HistAt w1 b0 hb lv1 most zs)
    (hj : lv1.ownBlock = lv.ownBlock ∨ ∀ k, lv1.ownBlock = some k → w0.heap.size ≤ k) (hk : Keeps (fun k => k = hb ∨ (lv.ownBlock = some k ∧ b0 ≤ k)) w0 w1) : Both b0 w hb lv1 x most zs ys w1 := by
  have hge := h.h.ge
  have hle := h.b.size
  refine ⟨hh, h.sl.keeps hk fun j hj' _ hF => ?_, fun j hj' => ?_, h.b.trans (hk.below (by omega) fun k hF => ?_)⟩
  · obtain ⟨_, h2, h3⟩ := h.a j hj'
    rcases hF with e | e
    · exact h2 e
    · exact h3 e
  · obtain ⟨h1, h2, h3⟩ := h.a j hj'
    refine ⟨Nat.lt_of_lt_of_le h1 hk.size, h2, fun e => ?_⟩
    rcases hj with e2 | e2
    · rw [e2] at e; exact h3 e
    · have := e2 j e.1; omega
  · rcases hF with e | e
    · omega
    · exact e.2
theorem Both.grow {b0 hb : Nat} {w w0 w1 : World} {lv x : Value} {most : Int} {xs ys : List (List UInt8)} (h : Both b0 w hb lv x most xs ys w0) (hw : b0 ≤ w.heap.size) (hb1 : Below w0.heap.size w0 w1) : Both b0 w hb lv x most xs ys w1 :=
  ⟨h.h.below hb1, h.sl.below hb1, fun j hj => ⟨Nat.lt_of_lt_of_le (h.a j hj).1 hb1.size, (h.a j hj).2⟩, h.b.trans (hb1.mono (by have := h.b.size; omega))⟩
theorem Both.ref {b0 hb : Nat} {w w0 w1 : World} {lv x u : Value} {most : Int} {xs ys zs : List (List UInt8)} (h : Both b0 w hb lv x most xs ys w0) (hw : b0 ≤ w.heap.size) (hb1 : Below w0.heap.size w0 w1) (hu : Sl w1 strC 1 u zs)
    (huj : u = x ∨ ∀ k, u.ownBlock = some k → w0.heap.size ≤ k ∧ k < w1.heap.size) : Both b0 w hb lv u most xs zs w1 := by
  have g := h.grow hw hb1
  refine ⟨g.h, hu, fun j hj => ?_, g.b⟩
  rcases huj with rfl | e
  · exact g.a j hj
  · obtain ⟨h1, h2⟩ := e j hj
    refine ⟨h2, fun e => ?_, fun e => ?_⟩
    · have := h.h.lt; omega
    · have := h.h.own.lt j e.1; omega
end Go.Proofs.Yteojepadhonbiaa
