/-
  The walks of layer 19 (tables), on: slices.Insert of entries at the end, awake. Conditions: names of at most 2^30 bytes, at most 2^20 entries.
-/
import Derived.Test.YtkllgikmlgponaaTab2
namespace Go.Proofs.Ytkllgikmlgponaa.Tab
open Go.ChangeShapes Go.WideShapes Go.Deep Go.RowKit
set_option maxRecDepth 100000
theorem info_ent : (Try.prog.info? 25).map (fun i => (i.zero, i.size, i.bytes)) = some (some (.agg #[.string ByteArray.empty, .string ByteArray.empty]), 2, 32) := by kernel_rfl
theorem own_cap {w : World} {b0 sz n : Nat} {v : Value} {xs : List Value} (h : Own w b0 sz v n xs) : ∀ A m c, v = .slice A m c → n ≤ c := by
  intro A m c e
  rcases h.2 with ⟨h0, e1 | ⟨g, off, e1, hg⟩⟩ | ⟨g, off, c', e1, h1, h2, h3, h4, h5, h6⟩
  · omega
  · omega
  · rw [e] at e1
    injection e1 with _ _ e3
    omega
/-- What slices.Insert leaves. -/
def InsP (b0 : Nat) (lv : Value) (ys : List Ent) (w : World) (e : Ending) (w' : World) : Prop :=
  ∃ v', e = .returned v' ∧ Own w' b0 2 v' ys.length (ys.flatMap Ent.cells) ∧ Keeps (fun k => lv.ownBlock = some k ∧ b0 ≤ k) w w' ∧ (v'.ownBlock = lv.ownBlock ∨ ∀ k, v'.ownBlock = some k → w.heap.size ≤ k)
set_option maxHeartbeats 1600000 in
theorem insert_end (w : World) (b0 vb : Nat) (lv : Value) (xs : List Ent) (y : Ent) (ho : Own w b0 2 lv xs.length (xs.flatMap Ent.cells)) (hs : Src w (.slice (some ⟨vb, 0, none⟩) 1 1) 1 (Ent.cells y)) (hx : xs.length ≤ 1048576) (hb : b0 ≤ w.heap.size) :
    Calls Try.prog 52 #[lv, .int .i64 xs.length, .slice (some ⟨vb, 0, none⟩) 1 1] w (InsP b0 lv (xs ++ [y]) w) := by
  obtain ⟨i0, hi0, hz00, hz01, hz02⟩ := info_parts info_ent
  have hcap := own_cap ho
  have HO := Lib.hid ho
  obtain ⟨A, c, rfl, hA⟩ := ho.form0
  have hc := hcap A _ c rfl
  have HS := Lib.hid hs
  clear hcap ho hs
  cases A with
  | none =>
    have h0 : xs.length = 0 := by
      rcases Nat.eq_zero_or_pos xs.length with h | h
      · exact h
      · obtain ⟨g, off, e⟩ := hA h; cases e
    have : xs = [] := List.eq_nil_of_length_eq_zero h0
    subst this
    clear hA h0
    go_enter Try.func52, Try.ntmps52
    go_wp2_with ((at_builtin; refine wpList_append_src _ rfl (.tmp 23) (.tmp 24) _ rfl b0 25 i0 _ 2 32 Try.underlying22 hi0 hz00 hz01 hz02 rfl (by decide) _ 0 [] rfl (show Own w b0 2 (.slice none 0 c) 0 [] from HO.out) _ 1 (Ent.cells y) rfl rfl HS.out (by simp [Ent.cells, Value.oneCell']) (by unfold maxLen; omega) (by omega) (by first | (simp; done) | omega | (simp; omega)) ?_; intro v1 w1 hown1 hg1 hat1 hty1; have HTY1 := Lib.hid hty1; clear hty1))
    go_ret
    exact ⟨v1, rfl, by simpa [List.flatMap_append] using hown1, hg1, hat1⟩
  | some a =>
    clear hA
    go_enter Try.func52, Try.ntmps52
    go_wp2_with ((at_builtin; refine wpList_append_src _ rfl (.tmp 23) (.tmp 24) _ rfl b0 25 i0 _ 2 32 Try.underlying22 hi0 hz00 hz01 hz02 rfl (by decide) _ xs.length (xs.flatMap Ent.cells) rfl HO.out _ 1 (Ent.cells y) rfl rfl HS.out (by simp [Ent.cells, Value.oneCell']) (by unfold maxLen; omega) (by omega) (by first | (simp; done) | omega | (simp; omega)) ?_; intro v1 w1 hown1 hg1 hat1 hty1; have HTY1 := Lib.hid hty1; clear hty1))
    all_goals
      go_ret
      exact ⟨v1, rfl, by simpa [List.flatMap_append] using hown1, hg1, hat1⟩
/-- Behind Insert. -/
theorem tab_after {w w' w2 : World} {b0 tb : Nat} {lv : Value} {kind : Int} {xs : List Ent} (h : TabAt w b0 tb lv kind xs) (hb' : Below w.heap.size w w') (hg : Keeps (fun k => lv.ownBlock = some k ∧ b0 ≤ k) w' w2) :
    w2.cell? ⟨tb, 0, none⟩ = some (.int .i64 kind) ∧ w2.cell? ⟨tb, 1, none⟩ = some lv ∧ (∀ j, w2.frozen? ⟨tb, j, none⟩ = false) ∧ tb < w2.heap.size ∧ Keeps (fun k => k = tb ∨ (lv.ownBlock = some k ∧ b0 ≤ k)) w w2 := by
  have h' := h.below hb'
  have hh : w2.heap[tb]? = w'.heap[tb]? := hg.block tb h'.lt (fun e => h.ne e.1)
  have hc : ∀ j, w2.cell? ⟨tb, j, none⟩ = w'.cell? ⟨tb, j, none⟩ := fun j => World.cell?_of_block (w := w') hh
  have hf : ∀ j, w2.frozen? ⟨tb, j, none⟩ = w'.frozen? ⟨tb, j, none⟩ := fun j => World.frozen?_of_block (w := w') hh
  exact ⟨(hc 0).trans h'.c0, (hc 1).trans h'.c1, fun j => (hf j).trans (h'.f0 j), Nat.lt_of_lt_of_le h'.lt hg.size, (Keeps.of_below hb').trans (hg.mono fun k _ hk => .inr hk)⟩
theorem tab_store {w2 : World} {b0 tb : Nat} {v : Value} {kind : Int} {xs : List Ent} (ge : b0 ≤ tb) (t0 : w2.cell? ⟨tb, 0, none⟩ = some (.int .i64 kind)) (t1 : ∃ v, w2.cell? ⟨tb, 1, none⟩ = some v) (t2 : ∀ j, w2.frozen? ⟨tb, j, none⟩ = false) (t3 : tb < w2.heap.size)
    (ho : Own w2 b0 2 v xs.length (xs.flatMap Ent.cells)) (hne : v.ownBlock ≠ some tb) (hr : Rises xs) : TabAt (w2.setCell ⟨tb, 1, none⟩ v) b0 tb v kind xs := by
  have hk : Keeps (fun k => k = tb) w2 (w2.setCell ⟨tb, 1, none⟩ v) := Keeps.setCell (F := fun k => k = tb) w2 (a := ⟨tb, 1, none⟩) rfl _
  obtain ⟨u, hu⟩ := t1
  refine ⟨Nat.lt_of_lt_of_le t3 hk.size, ge, ?_, ?_, fun j => ?_, ho.keeps hk (fun k h _ e => hne (by rw [h, e])), hne, hr⟩
  · rw [World.cell?_setCell_other _ _ _ _ (by simp)]; exact t0
  · exact World.cell?_setCell_same' _ _ _ (by rw [hu]; rfl)
  · rw [World.frozen?_setCell]; exact t2 j
/-- What Set leaves, where it sets. -/
structure SetPost (b0 tb : Nat) (lv : Value) (kind : Int) (ys : List Ent) (w : World) (e : Ending) (w' : World) : Prop where
  e : e = .returned (.int .i64 0)
  h : ∃ lv', TabAt w' b0 tb lv' kind ys ∧ (lv'.ownBlock = lv.ownBlock ∨ ∀ k, lv'.ownBlock = some k → w.heap.size ≤ k)
  k : Keeps (fun k => k = tb ∨ (lv.ownBlock = some k ∧ b0 ≤ k)) w w'
theorem set_bad (w : World) (b0 tb : Nat) (lv : Value) (kind : Int) (xs : List Ent) (s v : List UInt8) (h : TabAt w b0 tb lv kind xs) (hm : Cls.mayB kind s = false) (hs : s.length ≤ 1073741824) :
    Calls Try.prog 20 #[.pointer (some ⟨tb, 0, none⟩), .string (B s), .string (B v)] w fun e w' => e = .returned (.int .i64 5) ∧ w = w' := by
  have HMY := Lib.hid fun w => Cls.may_any kind s w hs
  rw [hm] at HMY
  have c0 := h.c0
  haveI : Old w tb := ⟨h.lt⟩
  clear h hm
  go_enter Try.func20, Try.ntmps20
  go_wp2_with (go_at_call 50; refine (HMY.out _).mono ?_; rintro e w' ⟨rfl, rfl⟩)
  go_ret
  exact ⟨rfl, rfl⟩
theorem set_large (w : World) (b0 tb : Nat) (lv : Value) (kind : Int) (xs : List Ent) (s v : List UInt8) (h : TabAt w b0 tb lv kind xs) (hm : Cls.mayB kind s = true) (hs : s.length ≤ 1073741824) (hv : 65536 < v.length) :
    Calls Try.prog 20 #[.pointer (some ⟨tb, 0, none⟩), .string (B s), .string (B v)] w fun e w' => e = .returned (.int .i64 2) ∧ w = w' := by
  have HMY := Lib.hid fun w => Cls.may_any kind s w hs
  rw [hm] at HMY
  have c0 := h.c0
  haveI : Old w tb := ⟨h.lt⟩
  clear h hm
  go_enter Try.func20, Try.ntmps20
  go_wp2_with (go_at_call 50; refine (HMY.out _).mono ?_; rintro e w' ⟨rfl, rfl⟩)
  go_ret
  exact ⟨rfl, rfl⟩
set_option maxHeartbeats 1600000 in
theorem set_end (w : World) (b0 tb : Nat) (lv : Value) (kind : Int) (xs : List Ent) (s v : List UInt8) (h : TabAt w b0 tb lv kind xs) (hm : Cls.mayB kind s = true) (hs : s.length ≤ 1073741824) (hv : v.length ≤ 65536) (hx : xs.length < 10000)
    (ht : there xs s = false) (hp : place xs s = xs.length) (hr : Rises (xs ++ [⟨s, v⟩])) :
    Calls Try.prog 20 #[.pointer (some ⟨tb, 0, none⟩), .string (B s), .string (B v)] w (SetPost b0 tb lv kind (xs ++ [⟨s, v⟩]) w) := by
  have HMY := Lib.hid fun w => Cls.may_any kind s w hs
  rw [hm] at HMY
  have HF := Lib.hid (find_any w b0 tb lv kind xs s h (by omega))
  rw [ht, hp] at HF
  have c0 := h.c0
  have H := Lib.hid h
  haveI : Old w tb := ⟨h.lt⟩
  obtain ⟨A, c, rfl, -⟩ := h.own.form0
  have hlt := h.lt
  have hge := h.ge
  have HRS := Lib.hid hr
  have d1 := no (show ¬ (65536 : Int) < (v.length : Int) by omega)
  have d2 := no (show ¬ (10000 : Int) ≤ (xs.length : Int) by omega)
  clear h hm hr ht hp
  go_enter Try.func20, Try.ntmps20
  go_wp2_with (first
    | (go_at_call 50; refine (HMY.out _).mono ?_; rintro e w' ⟨rfl, rfl⟩)
    | (go_at_call 51; refine HF.out.mono ?_; rintro e w3 ⟨rfl, hb3⟩; have HB3 := Lib.hid hb3; have H3 := Lib.hid (H.out.below hb3); have e0 := H3.out.c0; have e1 := H3.out.c1; haveI : Old w3 tb := ⟨H3.out.lt⟩; clear hb3)
    | (go_at_call 52; refine (insert_end _ b0 _ _ xs ⟨s, v⟩ (H3.out.own.below (by (repeat (first | with_reducible exact Below.refl _ _ | with_reducible assumption | with_reducible refine below_alloc ?_ _ | with_reducible refine below_grow ?_ _ | with_reducible refine below_drewN ?_ _ | with_reducible refine below_drew ?_ | with_reducible refine below_setCell ?_ (by first | (dsimp only; omega) | (simp; done) | (simp; omega)) _)))) (Src.one _ _ _ _) (by omega) (by have := HB3.out.size; simp [go_sem]; omega)).mono ?_; rintro e w4 ⟨v', rfl, ho4, hk4, hat4⟩; obtain ⟨g2, off2, c2, e4, -⟩ := ho4.form' (by simp); rw [List.length_append, List.length_singleton] at e4; subst e4; obtain ⟨t0, t1, t2, t3, t4⟩ := tab_after H.out (below_then HB3.out (below_alloc (Below.refl _ _) _)) hk4; have t21 := t2 1; have HO4 := Lib.hid ho4; have HAT := Lib.hid hat4; have T2 := Lib.hid t2; have T4 := Lib.hid t4; clear ho4 hat4 t2 t4 hk4 e0 e1))
  go_ret
  have hz := HB3.out.size
  have hne : (Value.slice (some ⟨g2, off2, none⟩) (xs.length + 1) c2).ownBlock ≠ some tb := by
    rcases HAT.out with e | e
    · rw [e]; exact H.out.ne
    · intro e2
      have := e tb e2
      simp [go_sem] at this
      omega
  refine ⟨rfl, ⟨_, tab_store hge t0 ⟨_, t1⟩ T2.out t3 HO4.out hne HRS.out, ?_⟩, T4.out.trans (Keeps.setCell w4 (.inl rfl) _)⟩
  rcases HAT.out with e | e
  · exact .inl e
  · refine .inr fun k hk => ?_
    have := e k hk
    simp [go_sem] at this
    omega
end Go.Proofs.Ytkllgikmlgponaa.Tab
