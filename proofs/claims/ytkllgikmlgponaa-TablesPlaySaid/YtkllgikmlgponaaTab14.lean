/-
  The walks of layer 19 (tables), on: slices.Delete of one entry, Unset. Conditions: at most 2^20 entries.
-/
import Derived.Test.YtkllgikmlgponaaTab8
import Derived.Test.YtkllgikmlgponaaTab13
import Derived.Test.YtkllgikmlgponaaRun2
import Derived.Lib.SliceRun
namespace Go.Proofs.Ytkllgikmlgponaa.Tab
open Go.ChangeShapes Go.WideShapes Go.Deep Go.RowKit
set_option maxRecDepth 100000
/-- An own slice cut short. -/
theorem own_cut {w : World} {b0 sz g off n c m : Nat} {xs : List Value} (h : Own w b0 sz (.slice (some ⟨g, off, none⟩) n c) n xs) (hn : 0 < n) (hm : m ≤ n) : Own w b0 sz (.slice (some ⟨g, off, none⟩) m c) m (xs.take (m * sz)) := by
  have hxl := h.1
  have hmn : m * sz ≤ n * sz := Nat.mul_le_mul_right sz hm
  rcases h.2 with ⟨h0, _⟩ | ⟨g', off', c', e, g1, g2, g3, g4, g5, g6⟩
  · omega
  · injection e with e5 _ e6
    injection e5 with e5
    injection e5 with e5 e7
    subst e5 e6 e7
    refine ⟨by rw [List.length_take]; omega, .inr ⟨g, off, c, rfl, g1, g2, by omega, g4, g5, fun j u hj => g6 j u ?_⟩⟩
    rw [List.getElem?_take] at hj
    split at hj
    · exact hj
    · cases hj
theorem zero_ent (w : World) : (zeroValue 25).run Try.prog w = .ok (.agg #[.string ByteArray.empty, .string ByteArray.empty]) w := by kernel_rfl
theorem run_clear_ent (w : World) (ty : TypeId) (b o c : Nat) (hc : ∀ j, j < 2 → (w.cell? ⟨b, o + j, none⟩).isSome = true) (hf : ∀ j, j < 2 → w.frozen? ⟨b, o + j, none⟩ = false) :
    (Builtin.clear_ #[22] ty #[.slice (some ⟨b, o, none⟩) 1 c]).run Try.prog w = .ok (.tuple #[]) (w.setCells b o (Ent.cells ⟨[], []⟩)) := by
  have hst := run_storeCells_cells (P := Try.prog) b o (Ent.cells ⟨[], []⟩) 0 w (by simpa [Ent.cells] using hc) (by simpa [Ent.cells] using hf) (by intro v hv'; simp [Ent.cells] at hv'; rw [hv']; rfl)
  simp only [Nat.add_zero] at hst
  have hz : (Builtin.zeroCells (Value.agg #[.string { data := #[] }, .string { data := #[] }]).cells 1).toList = Ent.cells ⟨[], []⟩ := by kernel_rfl
  simp [Builtin.clear_, run_underlying Try.underlying22, zero_ent, hz, hst]
/-- The row without its p-th entry. -/
def cutL (xs : List Ent) (p : Nat) : List Ent := xs.take p ++ xs.drop (p + 1)
set_option maxHeartbeats 3200000 in
theorem delete_one (w : World) (b0 g off c p : Nat) (xs : List Ent) (ho : Own w b0 2 (.slice (some ⟨g, off, none⟩) xs.length c) xs.length (xs.flatMap Ent.cells)) (hx : xs.length ≤ 1048576) (hp : p < xs.length) :
    Calls Try.prog 53 #[.slice (some ⟨g, off, none⟩) xs.length c, .int .i64 p, .int .i64 ((p : Int) + 1)] w fun e w' => e = .returned (.slice (some ⟨g, off, none⟩) (xs.length - 1) c) ∧
      Own w' b0 2 (.slice (some ⟨g, off, none⟩) (xs.length - 1) c) (xs.length - 1) ((cutL xs p).flatMap Ent.cells) ∧ Keeps (fun k => k = g) w w' := by
  obtain ⟨i0, hi0, hz00, hz01, hz02⟩ := info_parts info_ent
  obtain ⟨g', off', c', e, g1, g2, g3, g4, g5, g6⟩ : ∃ g' off' c', Value.slice (some ⟨g, off, none⟩) xs.length c = .slice (some ⟨g', off', none⟩) xs.length c' ∧ b0 ≤ g' ∧ g' < w.heap.size ∧ xs.length ≤ c' ∧ c' ≤ maxLen ∧
      (∀ j, j < c' * 2 → (w.cell? ⟨g', off' + j, none⟩).isSome = true ∧ w.frozen? ⟨g', off' + j, none⟩ = false) ∧ ∀ j u, (xs.flatMap Ent.cells)[j]? = some u → w.cell? ⟨g', off' + j, none⟩ = some u := by
    rcases ho.2 with ⟨h0, _⟩ | h
    · omega
    · exact h
  injection e with e5 _ e6
  injection e5 with e5
  injection e5 with e5 e7
  subst e5 e6 e7
  have hc63 : c ≤ 9223372036854775807 := by unfold maxLen at g4; omega
  have hflat := ent_flat xs
  obtain ⟨W1, hW1⟩ : ∃ W1, W1 = w.drew.setCells g (off + p * 2) ((xs.flatMap Ent.cells).drop ((p + 1) * 2)) := ⟨_, rfl⟩
  have hdl : ((xs.flatMap Ent.cells).drop ((p + 1) * 2)).length = (xs.length - (p + 1)) * 2 := by rw [List.length_drop, hflat]; omega
  have hone : ∀ v ∈ xs.flatMap Ent.cells, v.oneCell' = true := by
    intro v hv
    obtain ⟨x, _, hxv⟩ := List.mem_flatMap.1 hv
    simp [Ent.cells] at hxv
    rcases hxv with rfl | rfl <;> rfl
  have o1 := own_set (k := p) (m := xs.length - (p + 1)) (ho.below (below_drew (Below.refl _ _))) (by omega) (by omega) hdl
  rw [← hW1] at o1
  have o2 := own_set (k := xs.length - 1) (m := 1) (ys := Ent.cells ⟨[], []⟩) o1 (by omega) (by omega) rfl
  have o3 := own_cut (m := xs.length - 1) o2 (by omega) (by omega)
  have HO := Lib.hid (show Own (W1.setCells g (off + (xs.length - 1) * 2) (Ent.cells ⟨[], []⟩)) b0 2 (.slice (some ⟨g, off, none⟩) (xs.length - 1) c) (xs.length - 1) ((cutL xs p).flatMap Ent.cells) by
    have e : (cutL xs p).flatMap Ent.cells = (xs.flatMap Ent.cells).take (p * 2) ++ (xs.flatMap Ent.cells).drop ((p + 1) * 2) := by
      unfold cutL
      rw [List.flatMap_append, ent_take, ent_drop]
    have hl : ((xs.flatMap Ent.cells).take (p * 2) ++ (xs.flatMap Ent.cells).drop ((p + 1) * 2)).length = (xs.length - 1) * 2 := by
      rw [List.length_append, hdl, List.length_take, hflat]; omega
    rw [e]
    have hX : ((xs.flatMap Ent.cells).take (p * 2) ++ ((xs.flatMap Ent.cells).drop ((p + 1) * 2) ++ (xs.flatMap Ent.cells).drop ((p + (xs.length - (p + 1))) * 2))).take ((xs.length - 1) * 2) = (xs.flatMap Ent.cells).take (p * 2) ++ (xs.flatMap Ent.cells).drop ((p + 1) * 2) := by
      rw [← List.append_assoc, List.take_left' hl]
    rw [hX] at o3
    rwa [List.take_left' hl] at o3)
  have hK1 : Keeps (fun k => k = g) w W1 := by rw [hW1]; exact (Keeps.of_below (below_drew (Below.refl _ _))).trans (keeps_setCells (F := fun k => k = g) rfl _ _ _)
  have HK := Lib.hid (hK1.trans (keeps_setCells (F := fun k => k = g) (b := g) rfl (Ent.cells ⟨[], []⟩) (off + (xs.length - 1) * 2) W1))
  obtain ⟨A, hA, hsrc⟩ : ∃ A : Addr, (if c = p + 1 then some (⟨g, off, none⟩ : Addr) else some ⟨g, off + (p + 1) * 2, none⟩) = some A ∧ Hid (∀ t u, ((xs.flatMap Ent.cells).drop ((p + 1) * 2))[t]? = some u → w.drew.cell? (A.add t) = some u) := by
    by_cases h : c = p + 1
    · refine ⟨⟨g, off, none⟩, by simp [h], fun t u hu => ?_⟩
      have h0 : ((xs.flatMap Ent.cells).drop ((p + 1) * 2)).length = 0 := by rw [hdl]; omega
      rw [List.length_eq_zero_iff.1 h0] at hu
      simp at hu
    · refine ⟨⟨g, off + (p + 1) * 2, none⟩, by simp [h], fun t u hu => ?_⟩
      rw [List.getElem?_drop] at hu
      rw [Addr.add_lit, Nat.add_assoc]
      exact g6 _ u hu
  have s1 : Hid (((xs.flatMap Ent.cells).drop ((p + 1) * 2)).length = (xs.length - (p + 1)) * 2) := hdl
  have s2 : Hid (∀ u ∈ (xs.flatMap Ent.cells).drop ((p + 1) * 2), u.oneCell' = true) := fun u hu => hone u (List.mem_of_mem_drop hu)
  have s3 : Hid (∀ t, t < ((xs.flatMap Ent.cells).drop ((p + 1) * 2)).length → (w.drew.cell? ⟨g, off + p * 2 + t, none⟩).isSome = true ∧ w.drew.frozen? ⟨g, off + p * 2 + t, none⟩ = false) := by
    intro t ht
    rw [hdl] at ht
    rw [Nat.add_assoc]
    exact g5 (p * 2 + t) (by omega)
  have hs1 : ∀ j, j < c * 2 → (W1.cell? ⟨g, off + j, none⟩).isSome = true := fun j hj => by
    rw [hW1]
    exact setCells_some g _ _ _ (fun k hk => by rw [Nat.add_assoc]; exact (g5 _ (by omega)).1) _ (g5 j hj).1
  have hcl : ∀ ty, (Builtin.clear_ #[22] ty #[.slice (some ⟨g, off + (p + (xs.length - (p + 1))) * 2, none⟩) (xs.length - (p + (xs.length - (p + 1)))) (c - (p + (xs.length - (p + 1))))]).run Try.prog W1 = .ok (.tuple #[]) (W1.setCells g (off + (xs.length - 1) * 2) (Ent.cells ⟨[], []⟩)) := fun ty => by
    rw [show p + (xs.length - (p + 1)) = xs.length - 1 by omega, show xs.length - (xs.length - 1) = 1 by omega]
    exact run_clear_ent W1 ty g _ _ (fun j hj => by rw [Nat.add_assoc]; exact hs1 _ (by omega)) (fun j hj => by rw [hW1, World.frozen?_setCells, Nat.add_assoc]; exact (g5 _ (by omega)).2)
  have X : Hid (W1 = w.drew.setCells g (off + p * 2) ((xs.flatMap Ent.cells).drop ((p + 1) * 2))) := hW1
  have b1 : (p : Int) ≤ (xs.length : Int) := by omega
  have b2 : (p : Int) + 1 ≤ (xs.length : Int) := by omega
  have b3 : (p : Int) ≤ (p : Int) + 1 := by omega
  have b4 : (0 : Int) ≤ (p : Int) + 1 := by omega
  have b5 : (p : Int) ≤ (c : Int) := by omega
  have b6 : ((p : Int) == (p : Int) + 1) = false := by rw [beq_eq_false_iff_ne]; omega
  have b7 : (xs.length : Int) ≤ (c : Int) := by omega
  have b8 : (0 : Int) ≤ (p : Int) := by omega
  have b9 : ¬ (c = p + (xs.length - (p + 1))) := by omega
  have b10 : p + (xs.length - (p + 1)) ≤ xs.length := by omega
  have b11 : ((p + (xs.length - (p + 1)) : Nat) : Int) ≤ (xs.length : Int) := by omega
  have htn : ((p : Int) + 1).toNat = p + 1 := by omega
  have HN := Lib.hid (show p + (xs.length - (p + 1)) = xs.length - 1 by omega)
  clear hW1 hs1 hK1 o1 o2 o3 hone hdl hflat g5 g6 ho
  go_enter Try.func53, Try.ntmps53
  go_wp2_with fail
  go_region_law (refine step_append_room rfl (.tmp 22) (.tmp 25) 22 rfl 25 i0 2 Try.underlying22 hi0 hz01 g off p c (by simp [Act.eval, Act.put]) A (xs.length - (p + 1)) (c - (p + 1)) ((xs.flatMap Ent.cells).drop ((p + 1) * 2)) (by simp [Act.eval, Act.put]) s1.out hsrc.out s2.out (by omega) s3.out ?_; rw [← X.out])
  go_wp2
  go_ret
  exact ⟨by rw [HN.out]; rfl, HO.out, HK.out⟩
theorem cutL_len {xs : List Ent} {p : Nat} (h : p < xs.length) : (cutL xs p).length = xs.length - 1 := by
  unfold cutL
  rw [List.length_append, List.length_take, List.length_drop]
  omega
theorem unset_no (w : World) (b0 tb : Nat) (lv : Value) (kind : Int) (xs : List Ent) (s : List UInt8) (h : TabAt w b0 tb lv kind xs) (hx : xs.length ≤ 1048576) (ht : there xs s = false) :
    Calls Try.prog 21 #[.pointer (some ⟨tb, 0, none⟩), .string (B s)] w fun e w' => e = .returned (.int .i64 3) ∧ Below w.heap.size w w' := by
  have HF := Lib.hid (find_any w b0 tb lv kind xs s h hx)
  rw [ht] at HF
  clear ht h
  go_enter Try.func21, Try.ntmps21
  go_wp2_with (go_at_call 51; refine HF.out.mono ?_; rintro e w3 ⟨rfl, hb3⟩; have HB3 := Lib.hid hb3; clear hb3)
  go_ret
  exact ⟨rfl, HB3.out⟩
set_option maxHeartbeats 1600000 in
theorem unset_yes (w : World) (b0 tb : Nat) (lv : Value) (kind : Int) (xs : List Ent) (s : List UInt8) (h : TabAt w b0 tb lv kind xs) (hx : xs.length ≤ 1048576) (ht : there xs s = true) :
    Calls Try.prog 21 #[.pointer (some ⟨tb, 0, none⟩), .string (B s)] w (SetPost b0 tb lv kind (cutL xs (place xs s)) w) := by
  have HF := Lib.hid (find_any w b0 tb lv kind xs s h hx)
  have hp : place xs s < xs.length := by
    rcases Nat.lt_or_ge (place xs s) xs.length with h | h
    · exact h
    · unfold there at ht; rw [List.getElem?_eq_none h] at ht; cases ht
  rw [ht] at HF
  have HRS := Lib.hid (show Rises (cutL xs (place xs s)) by
    unfold cutL
    rw [← List.eraseIdx_eq_take_drop_succ]
    exact h.r.sublist (List.eraseIdx_sublist _ _))
  have HLN := Lib.hid (cutL_len hp)
  have H := Lib.hid h
  haveI : Old w tb := ⟨h.lt⟩
  obtain ⟨A, c, rfl, hA⟩ := h.own.form0
  obtain ⟨g, off, rfl⟩ := hA (by omega)
  have hge := h.ge
  have hne := h.ne
  have hgb : b0 ≤ g := by
    rcases h.own.2 with ⟨h0, _⟩ | ⟨g', off', c', e, g1, g2, _⟩
    · omega
    · injection e with e5
      injection e5 with e5
      injection e5 with e5 e7
      omega
  have hiw : IntKind.i64.wrap ((place xs s : Int) + 1) = (place xs s : Int) + 1 := IntWalk.i64_in _ (by omega)
  generalize place xs s = p at *
  clear h ht hA
  go_enter Try.func21, Try.ntmps21
  go_wp2_with (first
    | (go_at_call 51; refine HF.out.mono ?_; rintro e w3 ⟨rfl, hb3⟩; have HB3 := Lib.hid hb3; have H3 := Lib.hid (H.out.below hb3); have e1 := H3.out.c1; haveI : Old w3 tb := ⟨H3.out.lt⟩; clear hb3)
    | (go_at_call 53; refine (delete_one _ b0 g off c p xs H3.out.own hx hp).mono ?_; rintro e w4 ⟨rfl, ho4, hk4⟩; obtain ⟨t0, t1, t2, t3, t4⟩ := tab_after H.out HB3.out (hk4.mono fun k _ e => (⟨by rw [e]; rfl, by omega⟩ : (Value.slice (some ⟨g, off, none⟩) xs.length c).ownBlock = some k ∧ b0 ≤ k)); have t21 := t2 1; have HO4 := Lib.hid ho4; have T2 := Lib.hid t2; have T4 := Lib.hid t4; clear ho4 t2 t4 hk4 e1))
  go_ret
  refine ⟨rfl, ⟨_, tab_store hge t0 ⟨_, t1⟩ T2.out t3 (by rw [HLN.out]; exact HO4.out) (fun e => hne (by rw [← e]; rfl)) HRS.out, .inl rfl⟩, T4.out.trans (Keeps.setCell w4 (.inl rfl) _)⟩
/-- What the reference's Unset leaves of a row that rises. -/
theorem butL_eq {xs : List Ent} (h : Rises xs) (s : List UInt8) : butL xs s = if there xs s = true then cutL xs (place xs s) else xs := by
  have hk : ∀ k x, xs[k]? = some x → ((x.name == s) = true ↔ (there xs s = true ∧ k = place xs s)) := fun k x hx => by
    obtain ⟨p1, p2, p3, p4⟩ := place_name h s hx
    rcases Nat.lt_trichotomy k (place xs s) with h1 | h1 | h1
    · have := (p1 h1).2
      constructor
      · intro q; rw [q] at this; cases this
      · intro q; omega
    · have := p4 h1
      constructor
      · intro q; exact ⟨by rw [← this]; exact q, h1⟩
      · intro q; rw [this]; exact q.1
    · have := p3 h1
      constructor
      · intro q; rw [q] at this; cases this
      · intro q; omega
  unfold butL
  cases ht : there xs s with
  | false =>
    rw [if_neg (by simp)]
    refine List.filter_eq_self.2 fun x hx => ?_
    obtain ⟨k, hkx⟩ := List.mem_iff_getElem?.1 hx
    have := (hk k x hkx)
    rw [ht] at this
    cases hq : (x.name == s) with
    | false => rfl
    | true => rw [hq] at this; simp at this
  | true =>
    rw [if_pos rfl]
    have hp : place xs s < xs.length := by
      rcases Nat.lt_or_ge (place xs s) xs.length with h | h
      · exact h
      · unfold there at ht; rw [List.getElem?_eq_none h] at ht; cases ht
    unfold cutL
    conv => lhs; rw [← List.take_append_drop (place xs s) xs]
    rw [List.filter_append, List.drop_eq_getElem_cons hp, List.filter_cons]
    have h0 : (xs[place xs s].name == s) = true := (hk _ _ (List.getElem?_eq_getElem hp)).2 ⟨ht, rfl⟩
    rw [h0]
    simp only [Bool.not_true, Bool.false_eq_true, if_false]
    congr 1
    · refine List.filter_eq_self.2 fun x hx => ?_
      obtain ⟨k, hkl, rfl⟩ := List.mem_iff_getElem.1 hx
      rw [List.length_take] at hkl
      rw [List.getElem_take]
      have := hk k _ (List.getElem?_eq_getElem (by omega))
      cases hq : (xs[k].name == s) with
      | false => rfl
      | true => have := this.1 hq; omega
    · refine List.filter_eq_self.2 fun x hx => ?_
      obtain ⟨k, hkl, rfl⟩ := List.mem_iff_getElem.1 hx
      rw [List.length_drop] at hkl
      rw [List.getElem_drop]
      have := hk (place xs s + 1 + k) _ (List.getElem?_eq_getElem (by omega))
      cases hq : (xs[place xs s + 1 + k].name == s) with
      | false => rfl
      | true => have := this.1 hq; omega
end Go.Proofs.Ytkllgikmlgponaa.Tab
