/-
  A row of the call's own behind the library's sort: between the library's words for the world and this seat's. No program in sight.
-/
import Derived.Test.YtkllgikmlgponaaStr
import Derived.Sort.Grow
import Derived.Sort.EncStr
namespace Go.Proofs.Ytkllgikmlgponaa
open Go.ChangeShapes Go.WideShapes Go.Deep Go.RowKit
theorem tyOf_map (w : World) (b : Nat) (f : Array Value → Array Value) (k : Nat) : tyOf (Go.Sort.mapBlock w b f) k = tyOf w k := by
  by_cases h : b = k
  · subst h
    unfold tyOf Go.Sort.mapBlock
    simp only [Array.getElem?_modify, if_true]
    cases hh : w.heap[b]? with
    | none => simp
    | some o => cases o <;> simp [Go.Sort.onCells]
  · exact tyOf_of_block (by unfold Go.Sort.mapBlock; simp [Array.getElem?_modify, h])
theorem keeps_put {α : Type} [Inhabited α] (enc : α → Value) (w : World) (g off m : Nat) (d : Array α) (os : Array Obj) : Keeps (fun k => k = g) w (Go.Sort.grow (Go.Sort.putRow enc (Go.Sort.ahead w m) g off d) os) := by
  have hb : ∀ k, k < w.heap.size → (Go.Sort.grow (Go.Sort.putRow enc (Go.Sort.ahead w m) g off d) os).heap[k]? = (Go.Sort.putRow enc (Go.Sort.ahead w m) g off d).heap[k]? := fun k hk => Go.Sort.heap_grow_old _ _ (by simpa [Go.Sort.ahead] using hk)
  refine ⟨rfl, rfl, rfl, by simp [Go.Sort.ahead, Go.Sort.grow], fun k hk hne => ?_, fun k hk => ?_⟩
  · rw [hb k hk]
    have : ¬ g = k := fun e => hne e.symm
    simp [Go.Sort.putRow, Go.Sort.mapBlock, Go.Sort.ahead, Array.getElem?_modify, this]
  · rw [tyOf_of_block (hb k hk)]
    exact tyOf_map _ _ _ _
theorem own_holds {α : Type} [Inhabited α] (enc : α → Value) {w : World} {b0 sz g off n c : Nat} {d0 : Array α} (h : Own w b0 sz (.slice (some ⟨g, off, none⟩) n c) n (d0.toList.map enc)) (hn : 0 < n) : Go.Sort.Holds enc w g off d0 ∧ g < w.heap.size ∧ b0 ≤ g := by
  have hl := h.1
  rcases h.2 with ⟨h0, _⟩ | ⟨g', off', c', e, h1, h2, h3, h4, h5, h6⟩
  · omega
  · simp only [Value.slice.injEq, Option.some.injEq, Addr.mk.injEq] at e
    obtain ⟨⟨rfl, rfl, _⟩, _, rfl⟩ := e
    refine ⟨fun j hj => ⟨h6 j _ ?_, (h5 j ?_).2⟩, h2, h1⟩
    · rw [List.getElem?_map, Array.getElem?_toList, Array.getElem?_eq_getElem hj, getElem!_pos d0 j hj]; rfl
    · simp at hl
      have := Nat.mul_le_mul_right sz h3
      omega
theorem own_put {α : Type} [Inhabited α] (enc : α → Value) {w : World} {b0 sz g off n c : Nat} {d0 d : Array α} (h : Own w b0 sz (.slice (some ⟨g, off, none⟩) n c) n (d0.toList.map enc)) (hn : 0 < n) (hd : d.size = d0.size) (m : Nat) (os : Array Obj) :
    Own (Go.Sort.grow (Go.Sort.putRow enc (Go.Sort.ahead w m) g off d) os) b0 sz (.slice (some ⟨g, off, none⟩) n c) n (d.toList.map enc) := by
  obtain ⟨hH, hlt, hb⟩ := own_holds enc h hn
  have hl := h.1
  rcases h.2 with ⟨h0, _⟩ | ⟨g', off', c', e, h1, h2, h3, h4, h5, h6⟩
  · omega
  · simp only [Value.slice.injEq, Option.some.injEq, Addr.mk.injEq] at e
    obtain ⟨⟨rfl, rfl, _⟩, _, rfl⟩ := e
    have hsz : g < (Go.Sort.putRow enc (Go.Sort.ahead w m) g off d).heap.size := by simpa [Go.Sort.ahead] using hlt
    refine ⟨by rw [← hl]; simp [hd], .inr ⟨g, off, c, rfl, hb, by have := (keeps_put enc w g off m d os).size; omega, h3, h4, fun j hj => ⟨?_, ?_⟩, fun j u hu => ?_⟩⟩
    · rw [Go.Sort.cell?_grow _ _ _ hsz]
      by_cases hj2 : j < d.size
      · rw [Go.Sort.cell?_putRow enc (Go.Sort.ahead w m) g off d0 d hH hd j hj2]; rfl
      · rw [Go.Sort.cell?_putRow_other enc (Go.Sort.ahead w m) g off d ⟨g, off + j, none⟩ (.inr (.inr (by show off + d.size ≤ off + j; omega)))]
        exact (h5 j hj).1
    · rw [Go.Sort.frozen?_grow _ _ _ hsz, Go.Sort.frozen?_putRow]
      exact (h5 j hj).2
    · rw [List.getElem?_map, Array.getElem?_toList] at hu
      have hj2 : j < d.size := by
        rcases Nat.lt_or_ge j d.size with q | q
        · exact q
        · rw [Array.getElem?_eq_none q] at hu; cases hu
      rw [Array.getElem?_eq_getElem hj2] at hu
      rw [Go.Sort.cell?_grow _ _ _ hsz, Go.Sort.cell?_putRow enc (Go.Sort.ahead w m) g off d0 d hH hd j hj2, getElem!_pos d j hj2]
      exact hu
theorem strC_map (xs : List (List UInt8)) : xs.flatMap strC = xs.toArray.toList.map Go.Proofs.encStr := by
  induction xs with
  | nil => rfl
  | cons a r ih => rw [List.flatMap_cons, ih]; simp [strC, Go.Proofs.encStr, B]
end Go.Proofs.Ytkllgikmlgponaa
