/-
  Rows of texts made anew, for the law UndoRings. Conditions: none.
-/
import Derived.Test.YtkinjjgaecbogaaRing5
namespace Go.Proofs.Ytkinjjgaecbogaa
open Go.ChangeShapes Go.WideShapes Go.Deep Go.RowKit
set_option maxRecDepth 100000
theorem sl_parts {w : World} {v : Value} {xs : List (List UInt8)} {N : Nat} (h : Sl w strC 1 v xs) (hn : xs.length = N + 1) : ∃ g o c, v = .slice (some ⟨g, o, none⟩) (N + 1) c ∧ g < w.heap.size ∧ N + 1 ≤ c ∧ c ≤ 9223372036854775807 ∧ ∀ j y, xs[j]? = some y → w.cell? ⟨g, o + j, none⟩ = some (.string (B y)) := by
  obtain ⟨A, c, rfl, h2, h3, _, h4⟩ := h
  obtain ⟨b, o, rfl, hb, hc⟩ := h4 (by omega)
  rw [hn] at h2 ⊢
  exact ⟨b, o, c, rfl, hb, h2, h3, fun j y hy => by have := hc j y hy 0 _ rfl; simpa using this⟩
theorem sl_none {w : World} {v : Value} (h : Sl w strC 1 v ([] : List (List UInt8))) : ∃ A c, v = .slice A 0 c := by
  obtain ⟨A, c, rfl, _⟩ := h
  exact ⟨A, c, rfl⟩
theorem fresh_x {w1 w2 : World} {v1 : Value} {m : Nat} {s' : List UInt8} {r : List (List UInt8)} (o : Obj) (ho : Own w2 w1.heap.size 1 v1 (1 + m) ([.string (B s')] ++ r.flatMap strC)) (hm : r.length = m)
    (hg : Keeps (fun k => (Value.slice (some ⟨w1.heap.size, 0, none⟩) 1 1).ownBlock = some k ∧ w1.heap.size ≤ k) (w1.alloc o) w2) (hat : v1.ownBlock = (Value.slice (some ⟨w1.heap.size, 0, none⟩) 1 1).ownBlock ∨ ∀ k, v1.ownBlock = some k → (w1.alloc o).heap.size ≤ k) :
    ∃ g o c, v1 = .slice (some ⟨g, o, none⟩) (m + 1) c ∧ m + 1 ≤ c ∧ c ≤ 9223372036854775807 ∧ Sl w2 strC 1 v1 (s' :: r) ∧ (∀ j, v1.ownBlock = some j → w1.heap.size ≤ j ∧ j < w2.heap.size) ∧ Below w1.heap.size w1 w2 := by
  have ho2 : Own w2 w1.heap.size 1 v1 (s' :: r).length ((s' :: r).flatMap strC) := by
    rw [show (s' :: r).length = 1 + m by simp; omega]; exact ho
  have hs := ho2.sl strC_len rfl
  have hlt := ho.lt
  have hb : Below w1.heap.size w1 w2 := below_keeps (below_alloc (Below.refl _ _) o) hg (fun k hk => hk.2)
  obtain ⟨g, o', c, e, hc1, _, hc2, hc3⟩ := ho.form' (by omega)
  refine ⟨g, o', c, by rw [e, Nat.add_comm], by omega, hc3, hs, fun j e2 => ⟨?_, hlt j e2⟩, hb⟩
  rcases hat with e3 | e3
  · rw [e3] at e2; cases e2; exact Nat.le_refl _
  · have := e3 j e2; simp at this; omega
/-- The first 20 of a row. -/
theorem sl_take {w : World} {g o c n : Nat} {xs : List (List UInt8)} (h : Sl w strC 1 (.slice (some ⟨g, o, none⟩) n c) xs) (k : Nat) (hk : k ≤ n) (hn : n = xs.length) (hk0 : 0 < k) : Sl w strC 1 (.slice (some ⟨g, o, none⟩) k c) (xs.take k) := by
  obtain ⟨A, c', e, h2, h3, hn', h4⟩ := h
  obtain ⟨b, o', e2, hb, hc⟩ := h4 (by omega)
  subst e2
  injection e with e1 _ e3
  injection e1 with e1
  cases e1
  subst e3
  have hl : (xs.take k).length = k := by rw [List.length_take]; omega
  refine ⟨_, c, by rw [hl], by omega, h3, fun h => (by cases h), fun _ => ⟨g, o, rfl, hb, fun j x hx i u hi => hc j x ?_ i u hi⟩⟩
  rw [List.getElem?_take] at hx
  split at hx
  · exact hx
  · cases hx
theorem rev_cons (r : List (List UInt8)) (t : List UInt8) : (r.reverse ++ [t]).reverse = t :: r := by simp
theorem cap_full (s t : List UInt8) (r : List (List UInt8)) : capL (r.reverse ++ [t] ++ [s]) = ((t :: r).take 19).reverse ++ [s] := by
  rw [← List.reverse_reverse (capL _), capL_rev]
  simp
theorem cap_few (s t : List UInt8) (r : List (List UInt8)) (h : r.length ≤ 18) : capL (r.reverse ++ [t] ++ [s]) = (t :: r).reverse ++ [s] := by
  unfold capL
  rw [show (r.reverse ++ [t] ++ [s]).length - 20 = 0 by simp; omega]
  simp
theorem tl_cons {m : Nat} {t : List UInt8} {r : List (List UInt8)} (h : t.length ≤ m) (H : ∀ y ∈ r, y.length ≤ m) : ∀ y ∈ t :: r, y.length ≤ m := by
  intro y hy
  rcases List.mem_cons.1 hy with rfl | hy
  · exact h
  · exact H y hy
theorem tl_one {k : Nat} {r : List (List UInt8)} {y : List UInt8} (h : ∀ z ∈ r, z.length ≤ 100 * k) (hy : y.length ≤ 100 * (k + 1)) : ∀ z ∈ r.reverse ++ [y], z.length ≤ 100 * (k + 1) := by
  intro z hz
  simp only [List.mem_append, List.mem_reverse, List.mem_singleton] at hz
  rcases hz with hz | rfl
  · have := h z hz; omega
  · exact hy
end Go.Proofs.Ytkinjjgaecbogaa
