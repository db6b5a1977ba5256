/-
  The walks of layer 19 (tables), on: Set of a name that is there.
-/
import Derived.Test.YtkllgikmlgponaaTab7
namespace Go.Proofs.Ytkllgikmlgponaa.Tab
open Go.ChangeShapes Go.WideShapes Go.Deep Go.RowKit
set_option maxRecDepth 100000
/-- One cell of an own slice set anew. -/
theorem own_cell {w : World} {b0 sz g off n c j : Nat} {xs : List Value} {u : Value} (h : Own w b0 sz (.slice (some ⟨g, off, none⟩) n c) n xs) (hj : j < n * sz) :
    Own (w.setCell ⟨g, off + j, none⟩ u) b0 sz (.slice (some ⟨g, off, none⟩) n c) n (xs.set j u) ∧ (∃ v, w.cell? ⟨g, off + j, none⟩ = some v) ∧ w.frozen? ⟨g, off + j, none⟩ = false := by
  have hxl := h.1
  rcases h.2 with ⟨h0, _⟩ | ⟨g', off', c', e, g1, g2, g3, g4, g5, g6⟩
  · subst h0; omega
  · injection e with e5 _ e6
    injection e5 with e5
    injection e5 with e5 e7
    subst e5 e6 e7
    have hcm : n * sz ≤ c * sz := Nat.mul_le_mul_right sz g3
    have hgj := g5 j (by omega)
    refine ⟨⟨by rw [List.length_set]; exact hxl, .inr ⟨g, off, c, rfl, g1, by simp [World.setCell]; exact g2, g3, g4, fun k hk => ⟨?_, by rw [World.frozen?_setCell]; exact (g5 k hk).2⟩, fun k v hk => ?_⟩⟩, Option.isSome_iff_exists.1 hgj.1, hgj.2⟩
    · by_cases e : k = j
      · subst e
        rw [World.cell?_setCell_same' _ _ _ hgj.1]; rfl
      · rw [World.cell?_setCell_other _ _ _ _ (by simp <;> omega)]; exact (g5 k hk).1
    · by_cases e : k = j
      · subst e
        rw [List.getElem?_set_self (by omega)] at hk
        rw [World.cell?_setCell_same' _ _ _ hgj.1]; exact hk
      · rw [List.getElem?_set_ne (fun q => e q.symm)] at hk
        rw [World.cell?_setCell_other _ _ _ _ (by simp <;> omega)]
        exact g6 k v hk
theorem ent_set (xs : List Ent) (p : Nat) (x : Ent) (v : List UInt8) (h : xs[p]? = some x) : (xs.flatMap Ent.cells).set (p * 2 + 1) (.string (B v)) = (xs.set p ⟨x.name, v⟩).flatMap Ent.cells := by
  induction xs generalizing p with
  | nil => simp at h
  | cons y ys ih =>
    cases p with
    | zero => simp at h; subst h; rfl
    | succ p =>
      rw [List.set_cons_succ, List.flatMap_cons, List.flatMap_cons, ← ih p (by simpa using h), show (p + 1) * 2 + 1 = p * 2 + 1 + 1 + 1 by omega]
      rfl
theorem rises_set {xs : List Ent} (h : Rises xs) (p : Nat) (x : Ent) (v : List UInt8) (hx : xs[p]? = some x) : Rises (xs.set p ⟨x.name, v⟩) := by
  obtain ⟨hp, rfl⟩ := List.getElem?_eq_some_iff.1 hx
  refine List.pairwise_iff_getElem.2 fun i j hi hj hij => ?_
  rw [List.length_set] at hi hj
  have := List.pairwise_iff_getElem.1 h i j hi hj hij
  rw [List.getElem_set, List.getElem_set]
  split <;> split
  · omega
  · rename_i e1 _; subst e1; exact this
  · rename_i _ e1; subst e1; exact this
  · exact this
set_option maxHeartbeats 1600000 in
theorem set_there (w : World) (b0 tb : Nat) (lv : Value) (kind : Int) (xs : List Ent) (s v : List UInt8) (h : TabAt w b0 tb lv kind xs) (hm : Cls.mayB kind s = true) (hs : s.length ≤ 1073741824) (hv : v.length ≤ 65536) (hx : xs.length ≤ 1048576)
    (ht : there xs s = true) :
    Calls Try.prog 20 #[.pointer (some ⟨tb, 0, none⟩), .string (B s), .string (B v)] w (SetPost b0 tb lv kind (xs.set (place xs s) ⟨s, v⟩) w) := by
  have HMY := Lib.hid fun w => Cls.may_any kind s w hs
  rw [hm] at HMY
  have HF := Lib.hid (find_any w b0 tb lv kind xs s h hx)
  have hp : place xs s < xs.length := by
    rcases Nat.lt_or_ge (place xs s) xs.length with h | h
    · exact h
    · unfold there at ht; rw [List.getElem?_eq_none h] at ht; cases ht
  obtain ⟨x, hxm⟩ := get_some hp
  have hxn : x.name = s := by unfold there at ht; rw [hxm] at ht; simpa using ht
  rw [ht] at HF
  have c0 := h.c0
  have H := Lib.hid h
  haveI : Old w tb := ⟨h.lt⟩
  obtain ⟨A, c, rfl, hA⟩ := h.own.form0
  obtain ⟨g, off, rfl⟩ := hA (by omega)
  have HES := Lib.hid (ent_set xs (place xs s) x v hxm)
  have HRS := Lib.hid (rises_set h.r (place xs s) x v hxm)
  rw [hxn] at HES HRS
  have hge := h.ge
  have hne := h.ne
  have hgb : b0 ≤ g := by
    rcases h.own.2 with ⟨h0, _⟩ | ⟨g', off', c', e, g1, g2, _⟩
    · omega
    · injection e with e5
      injection e5 with e5
      injection e5 with e5 e7
      omega
  have HO := Lib.hid fun w' (hb : Below w.heap.size w w') => own_cell (u := .string (B v)) (h.own.below hb) (j := place xs s * 2 + 1) (by omega)
  have d1 := no (show ¬ (65536 : Int) < (v.length : Int) by omega)
  have p0 : (0 : Int) ≤ (place xs s : Int) := by omega
  have p1 : (place xs s : Int) < (xs.length : Int) := by omega
  generalize place xs s = p at *
  clear h hm ht hA hxm hxn
  go_enter Try.func20, Try.ntmps20
  go_wp2_with (first
    | (go_at_call 50; refine (HMY.out _).mono ?_; rintro e w' ⟨rfl, rfl⟩)
    | (go_at_call 51; refine HF.out.mono ?_; rintro e w3 ⟨rfl, hb3⟩; have HB3 := Lib.hid hb3; have H3 := Lib.hid (H.out.below hb3); have e1 := H3.out.c1; haveI : Old w3 tb := ⟨H3.out.lt⟩; obtain ⟨ho3, ⟨u3, hu3⟩, hf3⟩ := HO.out _ hb3; rw [← Nat.add_assoc] at hu3 hf3 ho3; have HO3 := Lib.hid ho3; haveI : Old w3 g := ⟨World.block_lt_of_cell? _ _ hu3⟩; clear hb3 ho3))
  go_ret
  have hgt : g ≠ tb := fun e => hne (by rw [e]; rfl)
  have hk : Keeps (fun k => k = g) w3 (w3.setCell ⟨g, off + p * 2 + 1, none⟩ (.string (B v))) := Keeps.setCell (F := fun k => k = g) w3 (a := ⟨g, off + p * 2 + 1, none⟩) rfl _
  have hb : (w3.setCell ⟨g, off + p * 2 + 1, none⟩ (.string (B v))).heap[tb]? = w3.heap[tb]? := hk.block tb H3.out.lt (fun e => hgt e.symm)
  have ho := HO3.out
  rw [HES.out] at ho
  refine ⟨rfl, ⟨_, ⟨Nat.lt_of_lt_of_le H3.out.lt hk.size, hge, (World.cell?_of_block (w := w3) hb).trans H3.out.c0, (World.cell?_of_block (w := w3) hb).trans H3.out.c1, fun j => (World.frozen?_of_block (w := w3) hb).trans (H3.out.f0 j), ?_, hne, HRS.out⟩, .inl rfl⟩, (Keeps.of_below HB3.out).trans (Keeps.setCell w3 (.inr ⟨rfl, hgb⟩) _)⟩
  rw [List.length_set]
  exact ho
end Go.Proofs.Ytkllgikmlgponaa.Tab
