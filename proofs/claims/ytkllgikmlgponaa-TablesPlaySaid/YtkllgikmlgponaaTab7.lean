/-
  The walks of layer 19 (tables), on: slices.Insert of an entry at any place; Set of a name that isn't there.
-/
import Derived.Test.YtkllgikmlgponaaTab6
namespace Go.Proofs.Ytkllgikmlgponaa.Tab
open Go.ChangeShapes Go.WideShapes Go.Deep Go.RowKit
set_option maxRecDepth 100000
theorem insert_any (w : World) (b0 vb i : Nat) (lv : Value) (xs : List Ent) (y : Ent) (ho : Own w b0 2 lv xs.length (xs.flatMap Ent.cells)) (hv : w.heap[vb]? = some (.cells #[.string (B y.name), .string (B y.val)] 25)) (hne : lv.ownBlock ≠ some vb) (hx : xs.length ≤ 1048576) (hi : i ≤ xs.length) (hb : b0 ≤ w.heap.size) :
    Calls Try.prog 52 #[lv, .int .i64 i, .slice (some ⟨vb, 0, none⟩) 1 1] w (InsP b0 lv (xs.take i ++ y :: xs.drop i) w) := by
  rcases Nat.lt_or_ge i xs.length with h | h
  · obtain ⟨g, off, c, rfl, -⟩ := ho.form' (by omega)
    rcases Nat.lt_or_ge xs.length c with h2 | h2
    · exact insert_mid w b0 vb g off c i xs y ho hv (fun e => hne (by rw [e]; rfl)) hx h h2
    · exact insert_grow w b0 vb g off c i xs y ho hv hx h (by omega)
  · obtain rfl : i = xs.length := by omega
    have hs : Src w (.slice (some ⟨vb, 0, none⟩) 1 1) 1 (Ent.cells y) := by
      refine ⟨_, _, rfl, .inr ⟨_, rfl, fun j u hj => ?_⟩⟩
      rw [Addr.add_lit, Nat.zero_add]
      simp only [World.cell?, hv]
      match j, hj with
      | 0, hj => simpa [Ent.cells] using hj
      | 1, hj => simpa [Ent.cells] using hj
      | j + 2, hj => simp [Ent.cells] at hj
    have := insert_end w b0 vb lv xs y ho hs hx hb
    rwa [List.take_length, List.drop_length]
/-- A row with an entry laid at its place rises. -/
theorem rises_ins {xs : List Ent} (h : Rises xs) (s v : List UInt8) (ht : there xs s = false) : Rises (xs.take (place xs s) ++ ⟨s, v⟩ :: xs.drop (place xs s)) := by
  have hp := place_le xs s
  refine List.pairwise_append.2 ⟨h.sublist (List.take_sublist _ _), List.pairwise_cons.2 ⟨fun b hb => ?_, h.sublist (List.drop_sublist _ _)⟩, fun a ha b hb => ?_⟩
  · obtain ⟨j, hj, rfl⟩ := List.mem_iff_getElem.1 hb
    rw [List.length_drop] at hj
    rw [List.getElem_drop]
    have h1 : ¬ Lib.compareBytes (xs[place xs s + j]'(by omega)).name s < 0 := fun q => by have := (place_iff h s (by omega)).1 q; omega
    have h2 : Lib.compareBytes (xs[place xs s + j]'(by omega)).name s ≠ 0 := fun q => by
      have e := cmp_zero q
      rcases Nat.eq_zero_or_pos j with hj0 | hj0
      · subst hj0
        unfold there at ht
        rw [List.getElem?_eq_getElem (by omega)] at ht
        simp only [Nat.add_zero] at e
        simp [e] at ht
      · have h3 : Lib.compareBytes (xs[place xs s]'(by omega)).name (xs[place xs s + j]'(by omega)).name < 0 := List.pairwise_iff_getElem.1 h _ _ _ _ (by omega)
        rw [e] at h3
        have := (place_iff h s (t := place xs s) (by omega)).1 h3
        omega
    rw [cmp_anti]
    show - Lib.compareBytes (xs[place xs s + j]'(by omega)).name s < 0
    omega
  · obtain ⟨i, hi, rfl⟩ := List.mem_iff_getElem.1 ha
    rw [List.length_take] at hi
    rw [List.getElem_take]
    have h1 := (place_iff h s (t := i) (by omega)).2 (by omega)
    rcases List.mem_cons.1 hb with rfl | hb
    · exact h1
    · obtain ⟨j, hj, rfl⟩ := List.mem_iff_getElem.1 hb
      rw [List.length_drop] at hj
      rw [List.getElem_drop]
      exact List.pairwise_iff_getElem.1 h _ _ _ _ (by omega)
set_option maxHeartbeats 1600000 in
theorem set_new (w : World) (b0 tb : Nat) (lv : Value) (kind : Int) (xs : List Ent) (s v : List UInt8) (h : TabAt w b0 tb lv kind xs) (hm : Cls.mayB kind s = true) (hs : s.length ≤ 1073741824) (hv : v.length ≤ 65536) (hx : xs.length < 10000)
    (ht : there xs s = false) :
    Calls Try.prog 20 #[.pointer (some ⟨tb, 0, none⟩), .string (B s), .string (B v)] w (SetPost b0 tb lv kind (xs.take (place xs s) ++ ⟨s, v⟩ :: xs.drop (place xs s)) w) := by
  have HMY := Lib.hid fun w => Cls.may_any kind s w hs
  rw [hm] at HMY
  have HF := Lib.hid (find_any w b0 tb lv kind xs s h (by omega))
  rw [ht] at HF
  have hr := rises_ins h.r s v ht
  have hpl := place_le xs s
  have c0 := h.c0
  have H := Lib.hid h
  haveI : Old w tb := ⟨h.lt⟩
  obtain ⟨A, c, rfl, -⟩ := h.own.form0
  have hlt := h.lt
  have hge := h.ge
  have HRS := Lib.hid hr
  have d1 := no (show ¬ (65536 : Int) < (v.length : Int) by omega)
  have d2 := no (show ¬ (10000 : Int) ≤ (xs.length : Int) by omega)
  have HLN := Lib.hid (show (xs.take (place xs s) ++ ⟨s, v⟩ :: xs.drop (place xs s)).length = xs.length + 1 by simp; omega)
  generalize place xs s = p at *
  clear h hm hr ht
  go_enter Try.func20, Try.ntmps20
  go_wp2_with (first
    | (go_at_call 50; refine (HMY.out _).mono ?_; rintro e w' ⟨rfl, rfl⟩)
    | (go_at_call 51; refine HF.out.mono ?_; rintro e w3 ⟨rfl, hb3⟩; have HB3 := Lib.hid hb3; have H3 := Lib.hid (H.out.below hb3); have e0 := H3.out.c0; have e1 := H3.out.c1; haveI : Old w3 tb := ⟨H3.out.lt⟩; clear hb3)
    | (go_at_call 52; refine (insert_any _ b0 _ p _ xs ⟨s, v⟩ (H3.out.own.below (by (repeat (first | with_reducible exact Below.refl _ _ | with_reducible assumption | with_reducible refine below_alloc ?_ _ | with_reducible refine below_grow ?_ _ | with_reducible refine below_drewN ?_ _ | with_reducible refine below_drew ?_ | with_reducible refine below_setCell ?_ (by first | (dsimp only; omega) | (simp; done) | (simp; omega)) _)))) (heap_alloc_new _ _) (fun e => by have := H3.out.own.lt _ e; omega) (by omega) hpl (by have := HB3.out.size; simp [go_sem]; omega)).mono ?_; rintro e w4 ⟨v', rfl, ho4, hk4, hat4⟩; obtain ⟨g2, off2, c2, e4, -⟩ := ho4.form' (by rw [HLN.out]; omega); rw [HLN.out] at e4; subst e4; obtain ⟨t0, t1, t2, t3, t4⟩ := tab_after H.out (below_then HB3.out (below_alloc (Below.refl _ _) _)) hk4; have t21 := t2 1; have HO4 := Lib.hid ho4; have HAT := Lib.hid hat4; have T2 := Lib.hid t2; have T4 := Lib.hid t4; clear ho4 hat4 t2 t4 hk4 e0 e1))
  go_ret
  have hz := HB3.out.size
  have hne : (Value.slice (some ⟨g2, off2, none⟩) (xs.length + 1) c2).ownBlock ≠ some tb := by
    rcases HAT.out with e | e
    · rw [e]; exact H.out.ne
    · intro e2
      have := e tb e2
      simp [go_sem] at this
      omega
  refine ⟨rfl, ⟨_, tab_store hge t0 ⟨_, t1⟩ T2.out t3 HO4.out hne HRS.out, ?_⟩, T4.out.trans (Keeps.setCell w4 (.inl rfl) _)⟩
  rcases HAT.out with e | e
  · exact .inl e
  · refine .inr fun k hk => ?_
    have := e k hk
    simp [go_sem] at this
    omega
end Go.Proofs.Ytkllgikmlgponaa.Tab
