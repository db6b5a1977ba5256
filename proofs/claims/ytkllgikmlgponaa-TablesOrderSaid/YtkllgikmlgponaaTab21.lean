/-
  Entries of unlike names make the same row, whatever their order; small laws of slices.
-/
import Derived.Test.YtkllgikmlgponaaTab20
namespace Go.Proofs.Ytkllgikmlgponaa.Tab
open Go.ChangeShapes Go.WideShapes Go.Deep Go.RowKit
set_option maxRecDepth 100000
theorem rises_head {x : Ent} {xs : List Ent} (h : Rises (x :: xs)) {y : Ent} (hy : y ∈ xs) : Lib.compareBytes x.name y.name < 0 := (List.pairwise_cons.1 h).1 y hy
theorem rises_ext : ∀ {xs ys : List Ent}, Rises xs → Rises ys → (∀ e, e ∈ xs ↔ e ∈ ys) → xs = ys
  | [], [], _, _, _ => rfl
  | [], y :: ys, _, _, h => by have := (h y).2 (by simp); cases this
  | x :: xs, [], _, _, h => by have := (h x).1 (by simp); cases this
  | x :: xs, y :: ys, hx, hy, h => by
    have e : x = y := by
      have h1 := (h x).1 (by simp)
      have h2 := (h y).2 (by simp)
      rcases List.mem_cons.1 h1 with h1 | h1
      · exact h1
      · rcases List.mem_cons.1 h2 with h2 | h2
        · exact h2.symm
        · have a := rises_head hy h1
          have b := rises_head hx h2
          rw [cmp_anti] at b
          omega
    subst e
    have hne : ∀ {zs : List Ent}, Rises (x :: zs) → x ∉ zs := fun hz hm => by
      have := rises_head hz hm
      rw [cmp_self] at this
      omega
    rw [rises_ext (List.pairwise_cons.1 hx).2 (List.pairwise_cons.1 hy).2 fun e => ⟨fun he => ?_, fun he => ?_⟩]
    · rcases List.mem_cons.1 ((h e).1 (List.mem_cons_of_mem _ he)) with r | r
      · rw [r] at he; exact absurd he (hne hx)
      · exact r
    · rcases List.mem_cons.1 ((h e).2 (List.mem_cons_of_mem _ he)) with r | r
      · rw [r] at he; exact absurd he (hne hy)
      · exact r
theorem there_mem {xs : List Ent} {s : List UInt8} (h : there xs s = true) : ∃ x ∈ xs, x.name = s := by
  obtain ⟨x, hxm⟩ := get_some (there_lt h)
  exact ⟨x, List.mem_of_getElem? hxm, by unfold there at h; rw [hxm] at h; simpa using h⟩
theorem setE_mem {kind : Int} {xs : List Ent} {s v : List UInt8} (hn : ∀ x ∈ xs, x.name ≠ s) (e : Ent) : e ∈ setE kind xs s v ↔ e ∈ xs ∨ (e = ⟨s, v⟩ ∧ Cls.mayB kind s = true) := by
  unfold setE setL
  cases hm : Cls.mayB kind s with
  | false => simp
  | true =>
    cases ht : there xs s with
    | true => obtain ⟨x, hx, hxs⟩ := there_mem ht; exact absurd hxs (hn x hx)
    | false =>
      rw [if_pos rfl, if_neg (by simp)]
      conv => rhs; rw [← List.take_append_drop (place xs s) xs]
      simp only [List.mem_append, List.mem_cons, and_true]
      constructor
      · rintro (h | h | h)
        · exact .inl (.inl h)
        · exact .inr h
        · exact .inl (.inr h)
      · rintro ((h | h) | h)
        · exact .inl h
        · exact .inr (.inr h)
        · exact .inr (.inl h)
theorem fold_mem (kind : Int) : ∀ (l xs : List Ent), (∀ a ∈ l, ∀ x ∈ xs, x.name ≠ a.name) → l.Pairwise (fun a b => a.name ≠ b.name) → ∀ e, e ∈ l.foldl (fun xs e => setE kind xs e.name e.val) xs ↔ e ∈ xs ∨ (e ∈ l ∧ Cls.mayB kind e.name = true)
  | [], xs, _, _, e => by simp
  | a :: r, xs, h, hp, e => by
    obtain ⟨p1, p2⟩ := List.pairwise_cons.1 hp
    have hs := setE_mem (kind := kind) (v := a.val) (fun x hx => h a (by simp) x hx)
    rw [List.foldl_cons, fold_mem kind r _ (fun b hb x hx => ?_) p2 e, hs]
    · constructor
      · rintro ((h1 | ⟨rfl, h2⟩) | ⟨h1, h2⟩)
        · exact .inl h1
        · exact .inr ⟨by simp, h2⟩
        · exact .inr ⟨by simp [h1], h2⟩
      · rintro (h1 | ⟨h1, h2⟩)
        · exact .inl (.inl h1)
        · rcases List.mem_cons.1 h1 with rfl | h1
          · exact .inl (.inr ⟨rfl, h2⟩)
          · exact .inr ⟨h1, h2⟩
    · rcases (hs x).1 hx with q | ⟨rfl, _⟩
      · exact h b (by simp [hb]) x q
      · exact p1 b hb
theorem ofL_rev (kind : Int) (l : List Ent) (h : l.Pairwise (fun a b => a.name ≠ b.name)) : ofL kind l.reverse = ofL kind l := by
  refine rises_ext (ofL_rises _ _) (ofL_rises _ _) fun e => ?_
  unfold ofL
  rw [fold_mem kind l.reverse [] (by simp) (List.pairwise_reverse.2 (h.imp fun q e => q e.symm)) e, fold_mem kind l [] (by simp) h e]
  simp
theorem sl_take {w : World} {α : Type} {en : α → List Value} {sz n c k : Nat} {A : Option Addr} {xs : List α} (h : Sl w en sz (.slice A n c) xs) (hk : k ≤ xs.length) : Sl w en sz (.slice A k c) (xs.take k) := by
  obtain ⟨A', c', e, h2, h3, hn, h4⟩ := h
  injection e with e1 e2 e3
  subst e1 e3
  have hl : (xs.take k).length = k := by rw [List.length_take]; omega
  refine ⟨A, c, by rw [hl], by omega, h3, hn, fun h0 => ?_⟩
  obtain ⟨b, off, e, hlt, hc⟩ := h4 (by omega)
  refine ⟨b, off, e, hlt, fun i x hi => hc i x ?_⟩
  rw [List.getElem?_take] at hi
  split at hi
  · exact hi
  · cases hi
theorem _root_.Go.Proofs.Ytkllgikmlgponaa.Sl.src' {w : World} {α : Type} {en : α → List Value} {sz n : Nat} {v : Value} {xs : List α} (h : Sl w en sz v xs) (hen : ∀ x ∈ xs, (en x).length = sz) (hn : xs.length = n) : Src w v n (xs.flatMap en) := by
  subst hn
  exact h.src hen
theorem own_one (w : World) (cs : List Value) (t : TypeId) (b0 : Nat) (hb : b0 ≤ w.heap.size) : Own (w.alloc (.cells cs.toArray t)) b0 cs.length (.slice (some ⟨w.heap.size, 0, none⟩) 1 1) 1 cs := by
  have hh := heap_alloc_new w (.cells cs.toArray t)
  have hc : ∀ j, (w.alloc (.cells cs.toArray t)).cell? ⟨w.heap.size, 0 + j, none⟩ = cs[j]? := fun j => by
    unfold World.cell?
    simp only [hh, Nat.zero_add]
    simp
  refine ⟨by simp, .inr ⟨w.heap.size, 0, 1, rfl, hb, by simp, Nat.le_refl _, by unfold maxLen; omega, fun j hj => ⟨?_, ?_⟩, fun j u hj => (hc j).trans hj⟩⟩
  · rw [hc, List.getElem?_eq_getElem (by omega)]; rfl
  · simp [go_sem]
end Go.Proofs.Ytkllgikmlgponaa.Tab
