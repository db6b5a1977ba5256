/-
  A row of texts turned in a region that draws its order, for the law UndoRings. Conditions: none.
-/
import Derived.Test.YtkinjjgaecbogaaRing6
namespace Go.Proofs.Ytkinjjgaecbogaa
open Go.ChangeShapes Go.WideShapes Go.Deep Go.RowKit
set_option maxRecDepth 100000
/-- A text in a block of its own. -/
structure At1 (W : World) (g : Nat) (t : List UInt8) : Prop where
  lt : g < W.heap.size
  c : W.cell? ⟨g, 0, none⟩ = some (.string (B t))
theorem At1.src {W : World} {g : Nat} {t : List UInt8} (h : At1 W g t) : Src W (.slice (some ⟨g, 0, none⟩) 1 1) 1 [.string (B t)] := by
  refine ⟨_, _, rfl, .inr ⟨_, rfl, fun j u hj => ?_⟩⟩
  cases j with
  | zero => simp at hj; subst hj; exact h.c
  | succ j => simp at hj
theorem At1.new (W : World) (t : List UInt8) (ty : TypeId) : At1 (W.alloc (.cells #[.string (B t)] ty)) W.heap.size t := ⟨by simp, by go_simp⟩
theorem At1.alloc {W : World} {g : Nat} {t : List UInt8} (h : At1 W g t) (o : Obj) : At1 (W.alloc o) g t :=
  ⟨by have := h.lt; simp; omega, (World.cell?_of_block (w := W) (heap_alloc_lt W o g h.lt)).trans h.c⟩
theorem At1.keeps {F : Nat → Prop} {W W' : World} {g : Nat} {t : List UInt8} (h : At1 W g t) (hk : Keeps F W W') (hF : ¬ F g) : At1 W' g t :=
  ⟨Nat.lt_of_lt_of_le h.lt hk.size, (World.cell?_of_block (w := W) (hk.block g h.lt hF)).trans h.c⟩
theorem sl_head {w : World} {g o n c : Nat} {t : List UInt8} {r : List (List UInt8)} (h : Sl w strC 1 (.slice (some ⟨g, o, none⟩) n c) (t :: r)) : g < w.heap.size ∧ w.cell? ⟨g, o, none⟩ = some (.string (B t)) := by
  obtain ⟨A, c', e, h2, h3, hn, h4⟩ := h
  obtain ⟨b, o', e2, hb, hc⟩ := h4 (by simp)
  subst e2
  injection e with e1 _ e3
  injection e1 with e1
  cases e1
  have := hc 0 t rfl 0 _ rfl
  exact ⟨hb, by simpa using this⟩
/-- What is kept while a row is turned. -/
structure R29 (w1 W : World) (gx ox cx : Nat) (t : List UInt8) (r : List (List UInt8)) : Prop where
  x : Sl W strC 1 (.slice (some ⟨gx, ox, none⟩) (r.length + 1) cx) (t :: r)
  b : Below w1.heap.size w1 W
  g : gx < w1.heap.size
theorem R29.alloc {w1 W : World} {gx ox cx : Nat} {t : List UInt8} {r : List (List UInt8)} (h : R29 w1 W gx ox cx t r) (o : Obj) : R29 w1 (W.alloc o) gx ox cx t r :=
  ⟨h.x.below (below_alloc (Below.refl _ _) o), below_alloc h.b o, h.g⟩
theorem R29.app {P : Nat → Prop} {w1 W W' : World} {gx ox cx : Nat} {t : List UInt8} {r : List (List UInt8)} (h : R29 w1 W gx ox cx t r) (hk : Keeps (fun k => P k ∧ w1.heap.size ≤ k) W W') : R29 w1 W' gx ox cx t r :=
  ⟨h.x.keepsF hk (fun k e hf => by have := hf.2; have e2 : gx = k := Option.some.inj e; have := h.g; omega), below_keeps h.b hk (fun k hk => hk.2), h.g⟩
theorem R29.head {w1 W : World} {gx ox cx : Nat} {t : List UInt8} {r : List (List UInt8)} (h : R29 w1 W gx ox cx t r) : W.cell? ⟨gx, ox, none⟩ = some (.string (B t)) := by
  obtain ⟨A, c', e, h2, h3, hn, h4⟩ := h.x
  obtain ⟨b, o, e2, hb, hc⟩ := h4 (by simp)
  subst e2
  injection e with e1 _ e3
  injection e1 with e1
  cases e1
  have := hc 0 t rfl 0 _ rfl
  simpa using this
theorem R29.tail {w1 W : World} {gx ox cx : Nat} {t : List UInt8} {r : List (List UInt8)} (h : R29 w1 W gx ox cx t r) : Src W (.slice (if cx = 1 then some ⟨gx, ox, none⟩ else some ⟨gx, ox + 1, none⟩) r.length (cx - 1)) r.length (r.flatMap strC) := (sl_tl h.x).src strC_len
theorem R29.done {P : Nat → Prop} {w1 W W' : World} {gx ox cx : Nat} {t t2 : List UInt8} {r r2 : List (List UInt8)} {v : Value} (h : R29 w1 W gx ox cx t r) (h2 : r ++ [t] = t2 :: r2) (ho : Own W' w1.heap.size 1 v (0 + r.length + 1) (([] ++ r.flatMap strC) ++ [.string (B t)])) (hk : Keeps (fun k => P k ∧ w1.heap.size ≤ k) W W') :
    ∃ g o c, v = .slice (some ⟨g, o, none⟩) (r2.length + 1) c ∧ r2.length + 1 ≤ c ∧ c ≤ 9223372036854775807 ∧ Sl W' strC 1 v (t2 :: r2) ∧ (∀ j, v.ownBlock = some j → w1.heap.size ≤ j ∧ j < W'.heap.size) ∧ Below w1.heap.size w1 W' := by
  have h' := h.app hk
  obtain ⟨g, o, c, e, h1, h2', h3, h4⟩ := ho.form' (by omega)
  have hl : r2.length = r.length := by have := congrArg List.length h2; simp at this; omega
  have ho2 : Own W' w1.heap.size 1 v (t2 :: r2).length ((t2 :: r2).flatMap strC) := by
    rw [← h2, show (r ++ [t]).length = 0 + r.length + 1 by simp, List.flatMap_append]
    simpa [strC] using ho
  subst e
  have e0 : 0 + r.length + 1 = r2.length + 1 := by omega
  rw [e0] at h3 ho2 ⊢
  exact ⟨g, o, c, rfl, h3, h4, ho2.sl strC_len rfl, fun j e => by cases e; exact ⟨h1, h2'⟩, h'.b⟩
/-- The same two rows. -/
theorem turn_rows {t t2 : List UInt8} {r r2 : List (List UInt8)} (h : r ++ [t] = t2 :: r2) : t :: r.reverse = r2.reverse ++ [t2] := by
  have := congrArg List.reverse h
  simpa using this
theorem turn_ex (t : List UInt8) (r : List (List UInt8)) : ∃ t2 r2, r ++ [t] = t2 :: r2 ∧ r2.length = r.length := by
  cases r with
  | nil => exact ⟨t, [], rfl, rfl⟩
  | cons y r => exact ⟨y, r ++ [t], rfl, by simp⟩
theorem tl_turn {m : Nat} {t t2 : List UInt8} {r r2 : List (List UInt8)} (h : r ++ [t] = t2 :: r2) (ht : t.length ≤ m) (H : ∀ y ∈ r, y.length ≤ m) : ∀ z ∈ r2.reverse ++ [t2], z.length ≤ m := by
  intro z hz
  rw [← turn_rows h] at hz
  rcases List.mem_cons.1 hz with rfl | hz
  · exact ht
  · exact H z (by simpa using hz)
end Go.Proofs.Ytkinjjgaecbogaa
