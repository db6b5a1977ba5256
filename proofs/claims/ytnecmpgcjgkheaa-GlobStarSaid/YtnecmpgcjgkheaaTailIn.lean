/-
  Regions that draw their order, inside a fence that asks nothing (in a round of a loop over an iterator; in an iterator, at its calls of yield): the plain laws turned. No program in sight.
-/
import Derived.Test.YtnecmpgcjgkheaaIter
import Derived.Test.YtnecmpgcjgkheaaTail
import Derived.OrdersIn
set_option linter.unusedSimpArgs false
set_option linter.unusedVariables false
namespace Go.Proofs.Ytnecmpgcjgkheaa
open Go.ChangeShapes Go.WideShapes Go.Deep Go.RowKit
/-- A block that begins with these cells, and may be written. -/
structure BoxN (w : World) (b : Nat) (cs : List Value) : Prop where
  lt : b < w.heap.size
  c : ∀ j u, cs[j]? = some u → w.cell? ⟨b, j, none⟩ = some u
  f : ∀ j, w.frozen? ⟨b, j, none⟩ = false
theorem BoxN.new (W : World) (cs : List Value) (t : TypeId) : BoxN (W.alloc (.cells cs.toArray t)) W.heap.size cs := by
  refine ⟨by simp, fun j u h => ?_, fun j => by simp [go_sem]⟩
  have hh := heap_alloc_new W (.cells cs.toArray t)
  unfold World.cell?
  simp only [hh]
  simpa using h
theorem BoxN.block {w W : World} {b : Nat} {cs : List Value} (h : BoxN w b cs) (e : W.heap[b]? = w.heap[b]?) (hs : w.heap.size ≤ W.heap.size) : BoxN W b cs :=
  ⟨Nat.lt_of_lt_of_le h.lt hs, fun j u hj => (World.cell?_of_block (w := w) e).trans (h.c j u hj), fun j => (World.frozen?_of_block (w := w) e).trans (h.f j)⟩
theorem BoxN.below {w W : World} {b : Nat} {cs : List Value} (h : BoxN w b cs) (hb : Below w.heap.size w W) : BoxN W b cs := h.block (hb.block b h.lt) hb.size
theorem BoxN.keeps {F : Nat → Prop} {w W : World} {b : Nat} {cs : List Value} (h : BoxN w b cs) (hk : Keeps F w W) (hF : ¬ F b) : BoxN W b cs := h.block (hk.block b h.lt hF) hk.size
theorem KeepsFrom.allocN (A : Nat) (W : World) (o : Obj) : KeepsFrom A W (W.alloc o) := KeepsFrom.of_keeps (F := fun _ => False) (Keeps.of_below (below_alloc (Below.refl _ _) o)) (fun _ h => h.elim)
theorem KeepG.of_below {G : Nat → Prop} {W W' : World} (hb : Below W.heap.size W W') (hG : ∀ k, G k → k < W.heap.size) : KeepG G W W' := fun k hk => hb.block k (hG k hk)
/-- A box of the call's own, and in it an own slice. -/
structure BoxOwn (w : World) (b0 B sz : Nat) (v : Value) (n : Nat) (xs : List Value) : Prop where
  lt : B < w.heap.size
  c : w.cell? ⟨B, 0, none⟩ = some v
  f : w.frozen? ⟨B, 0, none⟩ = false
  own : Own w b0 sz v n xs
  ne : v.ownBlock ≠ some B
theorem BoxOwn.lull {A : Nat} {w w' : World} {b0 B sz n : Nat} {v : Value} {xs : List Value} (h : BoxOwn w b0 B sz v n xs) (hk : Lull A w w') : BoxOwn w' b0 B sz v n xs :=
  ⟨Nat.lt_of_lt_of_le h.lt hk.size, hk.cell h.c, (hk.frozen h.c).trans h.f, h.own.lull hk, h.ne⟩
theorem BoxOwn.below {w w' : World} {b0 B sz n : Nat} {v : Value} {xs : List Value} (h : BoxOwn w b0 B sz v n xs) (hb : Below w.heap.size w w') : BoxOwn w' b0 B sz v n xs :=
  ⟨Nat.lt_of_lt_of_le h.lt hb.size, (hb.cell (p := ⟨B, 0, none⟩) h.lt).trans h.c, (hb.frozen (p := ⟨B, 0, none⟩) h.lt).trans h.f, h.own.below hb, h.ne⟩
/-- What was appended is stored. -/
theorem BoxOwn.store {w w1 : World} {b0 B sz n m : Nat} {v v' : Value} {xs ys : List Value} (h : BoxOwn w b0 B sz v n xs) (ho : Own w1 b0 sz v' m ys) (hk : Keeps (fun k => v.ownBlock = some k ∧ b0 ≤ k) w w1)
    (hat : v'.ownBlock = v.ownBlock ∨ ∀ k, v'.ownBlock = some k → w.heap.size ≤ k) : BoxOwn (w1.setCell ⟨B, 0, none⟩ v') b0 B sz v' m ys ∧ w1.cell? ⟨B, 0, none⟩ = some v ∧ w1.frozen? ⟨B, 0, none⟩ = false ∧ Keeps (fun k => k = B ∨ (v.ownBlock = some k ∧ b0 ≤ k)) w (w1.setCell ⟨B, 0, none⟩ v') := by
  have hh : w1.heap[B]? = w.heap[B]? := hk.block B h.lt (fun e => h.ne e.1)
  have hc : w1.cell? ⟨B, 0, none⟩ = some v := (World.cell?_of_block (w := w) hh).trans h.c
  have hf : w1.frozen? ⟨B, 0, none⟩ = false := (World.frozen?_of_block (w := w) hh).trans h.f
  have hne : v'.ownBlock ≠ some B := by
    rcases hat with e | e
    · rw [e]; exact h.ne
    · intro e2
      have := e B e2
      have := h.lt
      omega
  have hs : Keeps (fun k => k = B) w1 (w1.setCell ⟨B, 0, none⟩ v') := Keeps.setCell (F := fun k => k = B) w1 (a := ⟨B, 0, none⟩) rfl _
  refine ⟨⟨Nat.lt_of_lt_of_le (Nat.lt_of_lt_of_le h.lt hk.size) hs.size, World.cell?_setCell_same' _ _ _ (by rw [hc]; rfl), by rw [World.frozen?_setCell]; exact hf, ho.keeps hs (fun k hk _ e => hne (by rw [← e]; exact hk)), hne⟩, hc, hf, ?_⟩
  exact (hk.mono fun k _ e => .inr e).trans (hs.mono fun k _ e => .inl e)
/-- What a round of a loop over an iterator owes, where it appends to the slice in its box. -/
theorem BoxOwn.round {w W w1 : World} {o : Obj} {A b0 B sz n m : Nat} {v v' : Value} {xs ys : List Value} {G : Nat → Prop} (h : BoxOwn W b0 B sz v n xs) (hsz : 0 < sz) (hv : n = 0 → v = .slice none 0 0) (hb : Below b0 w W) (hw : b0 ≤ w.heap.size) (hB : b0 ≤ B) (hA : B < A) (hG : ∀ k, G k → k < b0)
    (ho : Own w1 b0 sz v' m ys) (hk : Keeps (fun k => v.ownBlock = some k ∧ b0 ≤ k) (W.alloc o) w1) (hat : v'.ownBlock = v.ownBlock ∨ ∀ k, v'.ownBlock = some k → (W.alloc o).heap.size ≤ k) :
    KeepsFrom A W (w1.setCell ⟨B, 0, none⟩ v') ∧ KeepG G W (w1.setCell ⟨B, 0, none⟩ v') ∧ BoxOwn (w1.setCell ⟨B, 0, none⟩ v') b0 B sz v' m ys ∧ Below b0 w (w1.setCell ⟨B, 0, none⟩ v') ∧ w1.cell? ⟨B, 0, none⟩ = some v ∧ w1.frozen? ⟨B, 0, none⟩ = false := by
  have hal : Below W.heap.size W (W.alloc o) := below_alloc (Below.refl _ _) o
  obtain ⟨h1, h2, h3, h4⟩ := (h.below hal).store ho hk hat
  have hK := (Keeps.of_below (F := fun k => k = B ∨ (v.ownBlock = some k ∧ b0 ≤ k)) hal).trans h4
  have hs := hb.size
  refine ⟨KeepsFrom.of_keeps hK fun k hF hlt hAk => ?_, KeepG.of_keeps hK (fun k hk => ?_) (fun k hk hF => ?_), h1, hb.trans (hK.below (by omega) fun k hF => ?_), h2, h3⟩
  · rcases hF with e | ⟨e, _⟩
    · omega
    · rcases Nat.eq_zero_or_pos n with hn | hn
      · rw [hv hn] at e; cases e
      · exact h.own.isCells hn hsz e
  · have := hG k hk; omega
  · have := hG k hk
    rcases hF with e | e
    · omega
    · omega
  · rcases hF with e | e
    · omega
    · exact e.2
/-- What a round of a loop over an iterator owes, where it appends to the slice in its box; the slice is newer than the loop. -/
theorem BoxOwn.round2 {W w1 : World} {o : Obj} {A b0 B sz n m : Nat} {v v' : Value} {xs ys : List Value} {G : Nat → Prop} (h : BoxOwn W b0 B sz v n xs) (hsz : 0 < sz) (hv : n = 0 → v = .slice none 0 0) (hA : B < A) (hG : ∀ k, G k → k < W.heap.size ∧ k ≠ B ∧ k < b0)
    (ho : Own w1 b0 sz v' m ys) (hk : Keeps (fun k => v.ownBlock = some k ∧ b0 ≤ k) (W.alloc o) w1) (hat : v'.ownBlock = v.ownBlock ∨ ∀ k, v'.ownBlock = some k → (W.alloc o).heap.size ≤ k) :
    KeepsFrom A W (w1.setCell ⟨B, 0, none⟩ v') ∧ KeepG G W (w1.setCell ⟨B, 0, none⟩ v') ∧ BoxOwn (w1.setCell ⟨B, 0, none⟩ v') b0 B sz v' m ys ∧ Keeps (fun k => k = B ∨ b0 ≤ k) W (w1.setCell ⟨B, 0, none⟩ v') ∧ w1.cell? ⟨B, 0, none⟩ = some v ∧ w1.frozen? ⟨B, 0, none⟩ = false := by
  have hal : Below W.heap.size W (W.alloc o) := below_alloc (Below.refl _ _) o
  obtain ⟨h1, h2, h3, h4⟩ := (h.below hal).store ho hk hat
  have hK := (Keeps.of_below (F := fun k => k = B ∨ (v.ownBlock = some k ∧ b0 ≤ k)) hal).trans h4
  refine ⟨KeepsFrom.of_keeps hK fun k hF hlt hAk => ?_, KeepG.of_keeps hK (fun k hk => (hG k hk).1) (fun k hk hF => ?_), h1, hK.mono fun k _ e => e.imp id (·.2), h2, h3⟩
  · rcases hF with e | ⟨e, _⟩
    · omega
    · rcases Nat.eq_zero_or_pos n with hn | hn
      · rw [hv hn] at e; cases e
      · exact h.own.isCells hn hsz e
  · obtain ⟨g1, g2, g3⟩ := hG k hk
    rcases hF with e | ⟨_, e⟩
    · exact g2 e
    · omega
/-- What a round of a loop over an iterator owes, where it appends to the slice in its box; the slice is newer than the loop, and lies in cells, if anywhere. -/
theorem BoxOwn.round3 {W w1 : World} {o : Obj} {A b0 B sz n m : Nat} {v v' : Value} {xs ys : List Value} {G : Nat → Prop} (h : BoxOwn W b0 B sz v n xs) (hv : ∀ k, v.ownBlock = some k → ∃ o, W.heap[k]? = some o ∧ o.isCells = true) (hA : B < A) (hG : ∀ k, G k → k < W.heap.size ∧ k ≠ B ∧ k < b0)
    (ho : Own w1 b0 sz v' m ys) (hk : Keeps (fun k => v.ownBlock = some k ∧ b0 ≤ k) (W.alloc o) w1) (hat : v'.ownBlock = v.ownBlock ∨ ∀ k, v'.ownBlock = some k → (W.alloc o).heap.size ≤ k) :
    KeepsFrom A W (w1.setCell ⟨B, 0, none⟩ v') ∧ KeepG G W (w1.setCell ⟨B, 0, none⟩ v') ∧ BoxOwn (w1.setCell ⟨B, 0, none⟩ v') b0 B sz v' m ys ∧ Keeps (fun k => k = B ∨ b0 ≤ k) W (w1.setCell ⟨B, 0, none⟩ v') ∧ w1.cell? ⟨B, 0, none⟩ = some v ∧ w1.frozen? ⟨B, 0, none⟩ = false := by
  have hal : Below W.heap.size W (W.alloc o) := below_alloc (Below.refl _ _) o
  obtain ⟨h1, h2, h3, h4⟩ := (h.below hal).store ho hk hat
  have hK := (Keeps.of_below (F := fun k => k = B ∨ (v.ownBlock = some k ∧ b0 ≤ k)) hal).trans h4
  refine ⟨KeepsFrom.of_keeps hK fun k hF hlt hAk => ?_, KeepG.of_keeps hK (fun k hk => (hG k hk).1) (fun k hk hF => ?_), h1, hK.mono fun k _ e => e.imp id (·.2), h2, h3⟩
  · rcases hF with e | ⟨e, _⟩
    · omega
    · exact hv k e
  · obtain ⟨g1, g2, g3⟩ := hG k hk
    rcases hF with e | ⟨_, e⟩
    · exact g2 e
    · omega
/-- The slice lies in cells from block A on, if anywhere. -/
def Seat (W : World) (A : Nat) (v : Value) : Prop := ∀ k, v.ownBlock = some k → A ≤ k ∧ ∃ o, W.heap[k]? = some o ∧ o.isCells = true
theorem Seat.nil (W : World) (A : Nat) : Seat W A (.slice none 0 0) := fun k h => by cases h
theorem Seat.lull {B A : Nat} {W W' : World} {v : Value} (h : Seat W A v) (hL : Lull B W W') : Seat W' A v := fun k hk => by
  obtain ⟨h1, o, h2, h3⟩ := h k hk
  exact ⟨h1, o, hL.cells k o h2 h3, h3⟩
theorem Seat.keeps {F : Nat → Prop} {A : Nat} {W W' : World} {v : Value} (h : Seat W A v) (hk : Keeps F W W') (hF : ∀ k, F k → k < A) : Seat W' A v := fun k hkv => by
  obtain ⟨h1, o, h2, h3⟩ := h k hkv
  exact ⟨h1, o, (hk.block k (Array.getElem?_eq_some_iff.1 h2).1 (fun hf => by have := hF k hf; omega)).trans h2, h3⟩
theorem Seat.below {A : Nat} {W W' : World} {v : Value} (h : Seat W A v) (hb : Below W.heap.size W W') : Seat W' A v := h.keeps (F := fun _ => False) (Keeps.of_below hb) (fun _ h => h.elim)
theorem Seat.of_own {A sz n : Nat} {W : World} {v : Value} {xs : List Value} (h : Own W A sz v n xs) (hn : 0 < n) (hsz : 0 < sz) : Seat W A v := fun k hk => by
  refine ⟨?_, h.isCells hn hsz hk⟩
  rcases h.2 with ⟨h0, _⟩ | ⟨g, off, c, rfl, h1, _⟩
  · omega
  · cases hk; exact h1
end Go.Proofs.Ytnecmpgcjgkheaa
namespace Go.Proofs.Ytnecmpgcjgkheaa
open Go.RowKit
section
variable {F : Fence} {P : Program} {ops : Array Oper} {md : Region.Mode} {C : World → Prop} {m : Nat}
end
end Go.Proofs.Ytnecmpgcjgkheaa
