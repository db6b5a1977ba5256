/-
  Layer 20's registry, on: Remove, Names, For, Of; the reference's Get, Remove, Set, For. Conditions: each theorem's own.
-/
import Derived.Test.YtljinmfkogmmlaaGreatRegA
import Derived.Test.YtljinmfkogmmlaaGreatRunA
import Derived.Lib.SliceRun
import Derived.Lib.LastIndexByte
/-
  The walk of slices.Delete of one name with its spec. Conditions: rows of at most 2^20 names.
-/
namespace Go.Proofs.YtljinmfkogmmlaaGreat.Spc
open Go.ChangeShapes Go.WideShapes Go.Deep Go.RowKit InsN
set_option linter.unusedSimpArgs false
set_option linter.unusedVariables false
set_option maxRecDepth 100000
def nm0 : Nm := ⟨[], .slice none 0 0, .slice none 0 0, ⟨[], [], [], [], [], []⟩⟩
theorem nm0_one : ∀ u ∈ namC nm0, u.oneCell' = true := by
  intro u hu
  simp [namC, nm0] at hu
  rcases hu with rfl | rfl | rfl <;> rfl
theorem zero_nam (w : World) : (zeroValue 43).run Tryz.prog w = .ok (.agg #[.string ByteArray.empty, .slice none 0 0, .slice none 0 0, .string ByteArray.empty, .string ByteArray.empty, .string ByteArray.empty, .string ByteArray.empty]) w := by kernel_rfl
theorem run_clear_nam (w : World) (ty : TypeId) (b o c : Nat) (hc : ∀ j, j < 7 → (w.cell? ⟨b, o + j, none⟩).isSome = true) (hf : ∀ j, j < 7 → w.frozen? ⟨b, o + j, none⟩ = false) :
    (Builtin.clear_ #[41] ty #[.slice (some ⟨b, o, none⟩) 1 c]).run Tryz.prog w = .ok (.tuple #[]) (w.setCells b o (namC nm0)) := by
  have hst := run_storeCells_cells (P := Tryz.prog) b o (namC nm0) 0 w (by simpa [namC] using hc) (by simpa [namC] using hf) (nm0_one)
  simp only [Nat.add_zero] at hst
  have hz : (Builtin.zeroCells (Value.agg #[.string { data := #[] }, .slice none 0 0, .slice none 0 0, .string { data := #[] }, .string { data := #[] }, .string { data := #[] }, .string { data := #[] }]).cells 1).toList = namC nm0 := by kernel_rfl
  simp [Builtin.clear_, run_underlying Tryz.underlying41, zero_nam, hz, hst]
/-- The row without its p-th entry. -/
def cutN (xs : List Nm) (p : Nat) : List Nm := xs.take p ++ xs.drop (p + 1)
set_option maxHeartbeats 3200000 in
theorem delete_nam (w : World) (b0 g off c p : Nat) (xs : List Nm) (ho : Own w b0 7 (.slice (some ⟨g, off, none⟩) xs.length c) xs.length (xs.flatMap namC)) (hx : xs.length ≤ 1048576) (hp : p < xs.length) (hOne : ∀ e ∈ xs, ∀ u ∈ namC e, u.oneCell' = true) :
    Calls Tryz.prog 39 #[.slice (some ⟨g, off, none⟩) xs.length c, .int .i64 p, .int .i64 ((p : Int) + 1)] w fun e w' => e = .returned (.slice (some ⟨g, off, none⟩) (xs.length - 1) c) ∧
      Own w' b0 7 (.slice (some ⟨g, off, none⟩) (xs.length - 1) c) (xs.length - 1) ((cutN xs p).flatMap namC) ∧ Keeps (fun k => k = g) w w' := by
  obtain ⟨i0, hi0, hz00, hz01, hz02⟩ := info_parts info_nam
  obtain ⟨g', off', c', e, g1, g2, g3, g4, g5, g6⟩ : ∃ g' off' c', Value.slice (some ⟨g, off, none⟩) xs.length c = .slice (some ⟨g', off', none⟩) xs.length c' ∧ b0 ≤ g' ∧ g' < w.heap.size ∧ xs.length ≤ c' ∧ c' ≤ maxLen ∧
      (∀ j, j < c' * 7 → (w.cell? ⟨g', off' + j, none⟩).isSome = true ∧ w.frozen? ⟨g', off' + j, none⟩ = false) ∧ ∀ j u, (xs.flatMap namC)[j]? = some u → w.cell? ⟨g', off' + j, none⟩ = some u := by
    rcases ho.2 with ⟨h0, _⟩ | h
    · omega
    · exact h
  injection e with e5 _ e6
  injection e5 with e5
  injection e5 with e5 e7
  subst e5 e6 e7
  have hc63 : c ≤ 9223372036854775807 := by unfold maxLen at g4; omega
  have hflat := InsN.en_flat xs
  obtain ⟨W1, hW1⟩ : ∃ W1, W1 = w.drew.setCells g (off + p * 7) ((xs.flatMap namC).drop ((p + 1) * 7)) := ⟨_, rfl⟩
  have hdl : ((xs.flatMap namC).drop ((p + 1) * 7)).length = (xs.length - (p + 1)) * 7 := by rw [List.length_drop, hflat]; omega
  have hone : ∀ v ∈ xs.flatMap namC, v.oneCell' = true := by
    intro v hv
    obtain ⟨x, hxm, hxv⟩ := List.mem_flatMap.1 hv
    exact hOne x hxm v hxv
  have o1 := own_set (k := p) (m := xs.length - (p + 1)) (ho.below (below_drew (Below.refl _ _))) (by omega) (by omega) hdl
  rw [← hW1] at o1
  have o2 := own_set (k := xs.length - 1) (m := 1) (ys := namC nm0) o1 (by omega) (by omega) rfl
  have o3 := own_cut (m := xs.length - 1) o2 (by omega) (by omega)
  have HO := Lib.hid (show Own (W1.setCells g (off + (xs.length - 1) * 7) (namC nm0)) b0 7 (.slice (some ⟨g, off, none⟩) (xs.length - 1) c) (xs.length - 1) ((cutN xs p).flatMap namC) by
    have e : (cutN xs p).flatMap namC = (xs.flatMap namC).take (p * 7) ++ (xs.flatMap namC).drop ((p + 1) * 7) := by
      unfold cutN
      rw [List.flatMap_append, InsN.en_take, InsN.en_drop]
    have hl : ((xs.flatMap namC).take (p * 7) ++ (xs.flatMap namC).drop ((p + 1) * 7)).length = (xs.length - 1) * 7 := by
      rw [List.length_append, hdl, List.length_take, hflat]; omega
    rw [e]
    have hX : ((xs.flatMap namC).take (p * 7) ++ ((xs.flatMap namC).drop ((p + 1) * 7) ++ (xs.flatMap namC).drop ((p + (xs.length - (p + 1))) * 7))).take ((xs.length - 1) * 7) = (xs.flatMap namC).take (p * 7) ++ (xs.flatMap namC).drop ((p + 1) * 7) := by
      rw [← List.append_assoc, List.take_left' hl]
    rw [hX] at o3
    rwa [List.take_left' hl] at o3)
  have hK1 : Keeps (fun k => k = g) w W1 := by rw [hW1]; exact (Keeps.of_below (below_drew (Below.refl _ _))).trans (keeps_setCells (F := fun k => k = g) rfl _ _ _)
  have HK := Lib.hid (hK1.trans (keeps_setCells (F := fun k => k = g) (b := g) rfl (namC nm0) (off + (xs.length - 1) * 7) W1))
  obtain ⟨A, hA, hsrc⟩ : ∃ A : Addr, (if c = p + 1 then some (⟨g, off, none⟩ : Addr) else some ⟨g, off + (p + 1) * 7, none⟩) = some A ∧ Hid (∀ t u, ((xs.flatMap namC).drop ((p + 1) * 7))[t]? = some u → w.drew.cell? (A.add t) = some u) := by
    by_cases h : c = p + 1
    · refine ⟨⟨g, off, none⟩, by simp [h], fun t u hu => ?_⟩
      have h0 : ((xs.flatMap namC).drop ((p + 1) * 7)).length = 0 := by rw [hdl]; omega
      rw [List.length_eq_zero_iff.1 h0] at hu
      simp at hu
    · refine ⟨⟨g, off + (p + 1) * 7, none⟩, by simp [h], fun t u hu => ?_⟩
      rw [List.getElem?_drop] at hu
      rw [Addr.add_lit, Nat.add_assoc]
      exact g6 _ u hu
  have s1 : Hid (((xs.flatMap namC).drop ((p + 1) * 7)).length = (xs.length - (p + 1)) * 7) := hdl
  have s2 : Hid (∀ u ∈ (xs.flatMap namC).drop ((p + 1) * 7), u.oneCell' = true) := fun u hu => hone u (List.mem_of_mem_drop hu)
  have s3 : Hid (∀ t, t < ((xs.flatMap namC).drop ((p + 1) * 7)).length → (w.drew.cell? ⟨g, off + p * 7 + t, none⟩).isSome = true ∧ w.drew.frozen? ⟨g, off + p * 7 + t, none⟩ = false) := by
    intro t ht
    rw [hdl] at ht
    rw [Nat.add_assoc]
    exact g5 (p * 7 + t) (by omega)
  have hs1 : ∀ j, j < c * 7 → (W1.cell? ⟨g, off + j, none⟩).isSome = true := fun j hj => by
    rw [hW1]
    exact setCells_some g _ _ _ (fun k hk => by rw [Nat.add_assoc]; exact (g5 _ (by omega)).1) _ (g5 j hj).1
  have hcl : ∀ ty, (Builtin.clear_ #[41] ty #[.slice (some ⟨g, off + (p + (xs.length - (p + 1))) * 7, none⟩) (xs.length - (p + (xs.length - (p + 1)))) (c - (p + (xs.length - (p + 1))))]).run Tryz.prog W1 = .ok (.tuple #[]) (W1.setCells g (off + (xs.length - 1) * 7) (namC nm0)) := fun ty => by
    rw [show p + (xs.length - (p + 1)) = xs.length - 1 by omega, show xs.length - (xs.length - 1) = 1 by omega]
    exact run_clear_nam W1 ty g _ _ (fun j hj => by rw [Nat.add_assoc]; exact hs1 _ (by omega)) (fun j hj => by rw [hW1, World.frozen?_setCells, Nat.add_assoc]; exact (g5 _ (by omega)).2)
  have X : Hid (W1 = w.drew.setCells g (off + p * 7) ((xs.flatMap namC).drop ((p + 1) * 7))) := hW1
  have b1 : (p : Int) ≤ (xs.length : Int) := by omega
  have b2 : (p : Int) + 1 ≤ (xs.length : Int) := by omega
  have b3 : (p : Int) ≤ (p : Int) + 1 := by omega
  have b4 : (0 : Int) ≤ (p : Int) + 1 := by omega
  have b5 : (p : Int) ≤ (c : Int) := by omega
  have b6 : ((p : Int) == (p : Int) + 1) = false := by rw [beq_eq_false_iff_ne]; omega
  have b7 : (xs.length : Int) ≤ (c : Int) := by omega
  have b8 : (0 : Int) ≤ (p : Int) := by omega
  have b9 : ¬ (c = p + (xs.length - (p + 1))) := by omega
  have b10 : p + (xs.length - (p + 1)) ≤ xs.length := by omega
  have b11 : ((p + (xs.length - (p + 1)) : Nat) : Int) ≤ (xs.length : Int) := by omega
  have htn : ((p : Int) + 1).toNat = p + 1 := by omega
  have HN := Lib.hid (show p + (xs.length - (p + 1)) = xs.length - 1 by omega)
  clear hW1 hs1 hK1 o1 o2 o3 hone hOne hdl hflat g5 g6 ho
  go_enter Tryz.func39, Tryz.ntmps39
  go_wp2_with fail
  go_region_law (refine step_append_room rfl (.tmp 22) (.tmp 25) 41 rfl 43 i0 7 Tryz.underlying41 hi0 hz01 g off p c (by simp [Act.eval, Act.put]) A (xs.length - (p + 1)) (c - (p + 1)) ((xs.flatMap namC).drop ((p + 1) * 7)) (by simp [Act.eval, Act.put]) s1.out hsrc.out s2.out (by omega) s3.out ?_; rw [← X.out])
  go_wp2
  go_ret
  exact ⟨by rw [HN.out]; rfl, HO.out, HK.out⟩
end Go.Proofs.YtljinmfkogmmlaaGreat.Spc
/-
  The walk of layer 20's registry, on: Remove. Conditions: at most 2^20 names.
-/
namespace Go.Proofs.YtljinmfkogmmlaaGreat.Spc
open Go.ChangeShapes Go.WideShapes Go.Deep Go.RowKit Tab Mc Pa Quo
set_option linter.unusedSimpArgs false
set_option linter.unusedVariables false
set_option maxRecDepth 100000
theorem cutN_len {xs : List Nm} {p : Nat} (h : p < xs.length) : (cutN xs p).length = xs.length - 1 := by
  unfold cutN
  rw [List.length_append, List.length_take, List.length_drop]
  omega
theorem cutN_is (xs : List Nm) (p : Nat) : cutN xs p = xs.eraseIdx p := by unfold cutN; rw [List.eraseIdx_eq_take_drop_succ]
theorem map_erase {α β : Type} (f : α → β) : ∀ (l : List α) (p : Nat), (l.eraseIdx p).map f = (l.map f).eraseIdx p
  | [], p => by simp
  | a :: r, 0 => by simp
  | a :: r, p + 1 => by rw [List.eraseIdx_cons_succ, List.map_cons, List.map_cons, List.eraseIdx_cons_succ, map_erase f r p]
theorem reg_del {w w3 W : World} {A N rb g off c p : Nat} {xs : List Nm} (h : RegAt w A N rb (.slice (some ⟨g, off, none⟩) xs.length c) xs) (hb : Below w.heap.size w w3) (hp : p < xs.length)
    (ho : Own W A 7 (.slice (some ⟨g, off, none⟩) (xs.length - 1) c) (xs.length - 1) ((cutN xs p).flatMap namC)) (hk : Keeps (fun k => k = g) w3 W) :
    RegAt (W.setCell ⟨rb, 0, none⟩ (.slice (some ⟨g, off, none⟩) (xs.length - 1) c)) A W.heap.size rb (.slice (some ⟨g, off, none⟩) (xs.length - 1) c) (cutN xs p) ∧ Keeps (fun k => k = rb ∨ ((Value.slice (some ⟨g, off, none⟩) xs.length c).ownBlock = some k ∧ A ≤ k ∧ k < N)) w (W.setCell ⟨rb, 0, none⟩ (.slice (some ⟨g, off, none⟩) (xs.length - 1) c)) ∧ N ≤ W.heap.size := by
  have h3 := h.below hb
  have hg := h.s g rfl
  have hla := h.la
  have hnw := h.nw
  have hs3 := hb.size
  have hsW := hk.size
  have hs : Keeps (fun k => k = rb) W (W.setCell ⟨rb, 0, none⟩ (.slice (some ⟨g, off, none⟩) (xs.length - 1) c)) := Keeps.setCell (F := fun k => k = rb) W (a := ⟨rb, 0, none⟩) rfl _
  have hsz := hs.size
  have hl := cutN_len hp
  have hlt := h.o.lt g rfl
  refine ⟨⟨boxN_set (h3.bx.keeps hk (by omega)) 0 (by simp) _, by rw [hl]; exact ho.keeps hs (fun k q _ f => by have q2 : g = k := Option.some.inj q; omega), fun k q => by have q2 : g = k := Option.some.inj q; omega, fun y hy => ?_, ?_, hla, by omega, hsz⟩, ((Keeps.of_below hb).trans (hk.mono fun k _ q => .inr (by rw [q]; exact ⟨rfl, hg⟩))).trans (hs.mono fun k _ q => .inl q), by omega⟩
  · have hE := h3.e y (by rw [cutN_is] at hy; exact List.mem_of_mem_eraseIdx hy)
    refine ⟨((hE.a.keepsv hk (fun q k e1 e2 => hE.da q k e1 (by subst e2; rfl))).keepsv hs (fun q k e1 e2 => by have := (hE.a.2 q k e1).1; omega)).mono (Nat.le_refl _) (by omega), ((hE.w.keepsv hk (fun q k e1 e2 => hE.dw q k e1 (by subst e2; rfl))).keepsv hs (fun q k e1 e2 => by have := (hE.w.2 q k e1).1; omega)).mono (Nat.le_refl _) (by omega), hE.da, hE.dw⟩
  · have hr := h.r
    unfold RisesN at hr ⊢
    rw [cutN_is, map_erase]
    exact hr.sublist (List.eraseIdx_sublist _ _)
theorem ys_cut (xs : List Nm) (p : Nat) : ysOf (cutN xs p) = (ysOf xs).eraseIdx p := by
  rw [cutN_is]
  unfold ysOf
  rw [map_erase]
theorem remove_no (w : World) (A N rb : Nat) (v : Value) (xs : List Nm) (s : List UInt8) (h : RegAt w A N rb v xs) (hx : xs.length ≤ 1048576) (ht : (((xs[placeN xs s]?).map Nm.n) == some s) = false) :
    Calls Tryz.prog 22 #[.pointer (some ⟨rb, 0, none⟩), .string (B s)] w (SetP A N rb v 3 (ysOf xs) w) := by
  have HF := Lib.hid (nfind_any w A N rb v xs s h hx)
  unfold NfindP at HF
  rw [ht] at HF
  have H := Lib.hid h
  clear h ht
  generalize placeN xs s = p at *
  go_enter Tryz.func22, Tryz.ntmps22
  go_wp2_with (go_at_call 34; refine HF.out.mono ?_; rintro e w3 ⟨rfl, hb3⟩; have HB3 := Lib.hid hb3; clear hb3)
  go_ret
  exact ⟨rfl, v, N, xs, H.out.below HB3.out, Nat.le_refl _, rfl, Keeps.of_below HB3.out, .inl rfl⟩
set_option maxHeartbeats 1600000 in
theorem remove_yes (w : World) (A N rb : Nat) (v : Value) (xs : List Nm) (s : List UInt8) (h : RegAt w A N rb v xs) (hx : xs.length ≤ 1048576) (ht : (((xs[placeN xs s]?).map Nm.n) == some s) = true) :
    Calls Tryz.prog 22 #[.pointer (some ⟨rb, 0, none⟩), .string (B s)] w (SetP A N rb v 0 (ysOf (cutN xs (placeN xs s))) w) := by
  have HF := Lib.hid (nfind_any w A N rb v xs s h hx)
  unfold NfindP at HF
  have hp : placeN xs s < xs.length := by
    rcases Nat.lt_or_ge (placeN xs s) xs.length with h | h
    · exact h
    · rw [List.getElem?_eq_none h] at ht; cases ht
  rw [ht] at HF
  obtain ⟨g, off, c, rfl, hgA, -⟩ := h.o.form' (by omega)
  have H := Lib.hid h
  have hrA := h.la
  have hiw : IntKind.i64.wrap ((placeN xs s : Int) + 1) = (placeN xs s : Int) + 1 := IntWalk.i64_in _ (by omega)
  haveI : Old w rb := ⟨h.bx.lt⟩
  have HONE := Lib.hid h.one
  generalize placeN xs s = p at *
  clear h ht
  go_enter Tryz.func22, Tryz.ntmps22
  go_wp2_with (first
    | (go_at_call 34; refine HF.out.mono ?_; rintro e w3 ⟨rfl, hb3⟩; have HB3 := Lib.hid hb3; have H3 := Lib.hid (H.out.below hb3); have e1 := H3.out.bx.c 0 _ rfl; haveI : Old w3 rb := ⟨H3.out.bx.lt⟩; clear hb3)
    | (go_at_call 39; refine (delete_nam _ A g off c p xs H3.out.o hx hp HONE.out).mono ?_; rintro e w4 ⟨rfl, ho4, hk4⟩; have HR := Lib.hid (reg_del H.out HB3.out hp ho4 hk4); have hb4 := H3.out.bx.keeps hk4 (by omega); have t0 := hb4.c 0 _ rfl; have t1 := hb4.f 0; haveI : Old w4 rb := ⟨hb4.lt⟩; clear ho4 hk4 e1 hb4))
  go_ret
  obtain ⟨r1, r2, r3⟩ := HR.out
  exact ⟨rfl, _, _, _, r1, r3, rfl, r2, .inl rfl⟩
theorem remove20_any (w : World) (A N rb : Nat) (v : Value) (xs : List Nm) (s : List UInt8) (h : RegAt w A N rb v xs) (hx : xs.length ≤ 1048576) :
    Calls Tryz.prog 22 #[.pointer (some ⟨rb, 0, none⟩), .string (B s)] w (SetP A N rb v (if thereY (ysOf xs) s = true then 0 else 3) (delY (ysOf xs) s) w) := by
  have ht := there_ys xs s
  unfold delY
  cases hq : thereY (ysOf xs) s with
  | true =>
    rw [hq] at ht
    rw [if_pos rfl, if_pos rfl, ← place_ys, ← ys_cut]
    exact remove_yes w A N rb v xs s h hx ht
  | false =>
    rw [hq] at ht
    rw [if_neg (by simp), if_neg (by simp)]
    exact remove_no w A N rb v xs s h hx ht
end Go.Proofs.YtljinmfkogmmlaaGreat.Spc
/-
  The walk of layer 20's registry, on: Names. Conditions: at most 2^20 names.
-/
namespace Go.Proofs.YtljinmfkogmmlaaGreat.Spc
open Go.ChangeShapes Go.WideShapes Go.Deep Go.RowKit Tab Mc Pa Quo
set_option linter.unusedSimpArgs false
set_option linter.unusedVariables false
set_option maxRecDepth 100000
def NamesP (ns : List (List UInt8)) (w : World) (e : Ending) (w' : World) : Prop := ∃ v, e = .returned v ∧ Own w' w.heap.size 1 v ns.length (ns.flatMap strC) ∧ Below w.heap.size w w'
set_option maxHeartbeats 1600000 in
theorem names20_any (w : World) (A N rb : Nat) (v : Value) (xs : List Nm) (h : RegAt w A N rb v xs) (hx : xs.length ≤ 1048576) :
    Calls Tryz.prog 18 #[.pointer (some ⟨rb, 0, none⟩)] w (NamesP (xs.map Nm.n) w) := by
  obtain ⟨i0, hi0, hz00, hz01, hz02⟩ := info_parts info_str
  obtain ⟨A1, c1, rfl, hA1⟩ := h.o.form0
  have HA := Lib.hid hA1
  have c0 := h.bx.c 0 _ rfl
  haveI : Old w rb := ⟨h.bx.lt⟩
  have H := Lib.hid h
  clear h hA1
  go_enter Tryz.func18, Tryz.ntmps18
  go_wp2_with (at_make; refine wpList_make_own _ rfl _ _ 24 rfl w.heap.size 9 i0 (.string ByteArray.empty) 1 Tryz.underlying24 hi0 hz00 hz01 .i64 .i64 _ xs.length rfl rfl rfl (by rw [hz02]; omega) (by unfold maxLen; omega) (Nat.le_refl _) ?_; intro w0 hown0 hgrow0; have HO0 := Lib.hid (Own.of_row hown0 (Nat.le_refl _)); have HB0 : Hid (Below w.heap.size w w0) := ⟨hgrow0.os, hgrow0.tape, hgrow0.output, hgrow0.size, fun k hk => hgrow0.block k hk (fun e => by cases e)⟩; have q0 := (H.out.below HB0.out).bx.c 0 _ rfl; haveI : Old w0 rb := ⟨(H.out.below HB0.out).bx.lt⟩; clear hown0 hgrow0)
  go_loopw [3, 17] (fun o1 i wr => ∃ (k : Nat) (o : Value), k ≤ xs.length ∧ o = o1 ∧ i = .int .i64 k ∧ Hid (Own wr w.heap.size 1 o k (((xs.take k).map Nm.n).flatMap strC)) ∧ Hid (Below w.heap.size w wr)) (fun _ i _ => xs.length - (intOf i).toNat)
  case atStart => exact ⟨0, _, by omega, rfl, rfl, HO0.out, HB0.out⟩
  case round =>
    obtain ⟨k, o, hk, rfl, rfl, HO, HB⟩ := hrel
    clear HO0 HB0
    have hwz := HB.out.size
    by_cases hlt : k < xs.length
    · obtain ⟨g, off, rfl⟩ := HA.out (by omega)
      obtain ⟨x, hxm⟩ := get_some hlt
      obtain ⟨e0, e1, e2, e3, e4, e5, e6, hg⟩ := own_nam (H.out.o.below HB.out) hxm
      haveI : Old wr g := ⟨hg⟩
      have k0 : (0 : Int) ≤ (k : Int) := by omega
      have k1 : (k : Int) < (xs.length : Int) := by omega
      have HT := Lib.hid (show ((xs.take (k + 1)).map Nm.n).flatMap strC = ((xs.take k).map Nm.n).flatMap strC ++ [.string (B x.n)] by
        rw [List.take_add_one, hxm, List.map_append, List.flatMap_append]; rfl)
      obtain ⟨Ax, cx, hva, _⟩ := (H.out.e x (List.mem_of_getElem? hxm)).a.1
      obtain ⟨Aw, cw, hvw, _⟩ := (H.out.e x (List.mem_of_getElem? hxm)).w.1
      obtain ⟨xn, xa, xw, xx⟩ := x
      dsimp only at *
      subst hva hvw
      clear hxm
      go_wp2_with ((at_builtin; refine wpList_append_src _ rfl (.tmp 21) (.tmp 24) _ rfl w.heap.size 9 i0 _ 1 16 Tryz.underlying24 hi0 hz00 hz01 hz02 rfl (by decide) _ k (((xs.take k).map Nm.n).flatMap strC) rfl (HO.out.below (by (repeat (first | exact Below.refl _ _ | assumption | with_reducible refine below_alloc ?_ _ | with_reducible refine below_grow ?_ _ | with_reducible refine below_drewN ?_ _ | with_reducible refine below_drew ?_ | with_reducible refine below_setCell ?_ (by first | (dsimp only; omega) | (simp; done) | (simp; omega)) _)))) _ 1 [.string (B xn)] rfl rfl (src_new _ _ _ _ _ (by simp)) (by simp [Value.oneCell']) (by unfold maxLen; omega) (by omega) (by first | (simp; done) | omega | (simp; omega)) ?_; intro v1 w1 hown1 hg1 hat1 hty1; have HTY1 := Lib.hid hty1; clear hty1); have HB3 := Lib.hid (below_keeps (below_alloc (below_alloc HB.out _) _) hg1 (fun k q => q.2)); have HO3 := Lib.hid hown1; clear hown1 hg1 hat1)
      go_roundw
      case rel => exact ⟨k + 1, v1, by omega, rfl, by go_num, by rw [HT.out]; exact HO3, HB3⟩
      case measure => simp [intOf]; omega
    · have hk' : k = xs.length := by omega
      have ho := HO.out
      rw [hk', List.take_length] at ho
      have HO2 := Lib.hid ho
      have k1 : ¬ (k : Int) < (xs.length : Int) := by omega
      clear ho hk' hlt
      go_wp2
      go_ret
      exact ⟨o, rfl, by rw [List.length_map]; exact HO2.out, HB.out⟩
end Go.Proofs.YtljinmfkogmmlaaGreat.Spc
/-
  The walk of layer 20's registry, on: For. Conditions: at most 2^20 names; rows, texts of at most 2^30.
-/
namespace Go.Proofs.YtljinmfkogmmlaaGreat.Spc
open Go.ChangeShapes Go.WideShapes Go.Deep Go.RowKit Tab Mc Pa Quo
set_option linter.unusedSimpArgs false
set_option linter.unusedVariables false
set_option maxRecDepth 100000
/-- What stands behind a text's last stroke. -/
def baseL (s : List UInt8) : List UInt8 := s.foldl (fun acc c => if c = 47 then [] else acc ++ [c]) []
theorem base_snoc (s : List UInt8) (k : Nat) (h : k < s.length) : baseL (s.take (k + 1)) = if s[k] = 47 then [] else baseL (s.take k) ++ [s[k]] := by
  unfold baseL
  rw [List.take_succ_eq_append_getElem h, List.foldl_append]
  rfl
theorem last_base (s : List UInt8) : ∀ n, n ≤ s.length → ∃ k : Nat, k ≤ n ∧ Lib.lastIdx (B s) 47 n + 1 = k ∧ (s.take n).drop k = baseL (s.take n)
  | 0, _ => ⟨0, Nat.le_refl _, rfl, rfl⟩
  | n + 1, h => by
    obtain ⟨k, h1, h2, h3⟩ := last_base s n (by omega)
    have hg : (((B s).data[n]!).toNat : Int) = (s[n].toNat : Int) := by
      rw [getElem!_pos (B s).data n (by simp [B]; omega)]
      simp [B]
    rw [base_snoc s n (by omega)]
    by_cases hq : s[n] = 47
    · refine ⟨n + 1, Nat.le_refl _, ?_, ?_⟩
      · rw [Lib.lastIdx_hit _ _ _ (by rw [hg, hq]; rfl)]; rfl
      · rw [if_pos hq, List.drop_of_length_le (by rw [List.length_take]; omega)]
    · refine ⟨k, by omega, ?_, ?_⟩
      · rw [Lib.lastIdx_miss _ _ _ (by
          rw [hg]
          intro e
          exact hq (UInt8.toNat_inj.1 (by have : ((47 : UInt8).toNat) = 47 := rfl; omega)))]
        exact h2
      · rw [if_neg hq, List.take_succ_eq_append_getElem (by omega), List.drop_append_of_le_length (by rw [List.length_take]; omega), h3]
theorem base_is (s : List UInt8) : ∃ k : Nat, k ≤ s.length ∧ Lib.lastIndexByte (B s) 47 + 1 = k ∧ s.drop k = baseL s := by
  obtain ⟨k, h1, h2, h3⟩ := last_base s s.length (Nat.le_refl _)
  rw [List.take_length] at h3
  refine ⟨k, h1, ?_, h3⟩
  unfold Lib.lastIndexByte
  rw [B_size]
  exact h2
theorem base_len (s : List UInt8) : (baseL s).length ≤ s.length := by
  obtain ⟨k, h1, -, h3⟩ := base_is s
  rw [← h3, List.length_drop]
  omega
/-- The spec of a command, by what is told of names. -/
def forQ (get : List UInt8 → Sp × Bool) (c : List UInt8) : Sp × Bool :=
  if c = [] then get [45, 69] else if Lib.hasPrefix (baseL c) [45] = true then get [45, 68] else if (get (baseL c)).2 = true then get (baseL c) else get [45, 68]
theorem last20_c (s : List UInt8) (w : World) (hs : s.length ≤ 1073741824) : Calls Tryz.prog 37 #[.string (B s), .int .u8 47] w fun e w' => e = .returned (.int .i64 (Lib.lastIndexByte (B s) 47)) ∧ w = w' :=
  (Tryz.strings_LastIndexByte (B s) 47 (by rw [B_size]; omega) w).mono fun e w' ⟨he, hw⟩ => ⟨he, hw.symm⟩
theorem prefix20_b (s p : List UInt8) (w : World) : Calls Tryz.prog 38 #[.string (B s), .string (B p)] w fun e w' => e = .returned (.bool (Lib.hasPrefix s p)) ∧ w = w' :=
  (Tryz.strings_HasPrefix (B s) (B p) w).mono fun e w' ⟨he, hw⟩ => ⟨by rw [he, B_data, B_data], hw.symm⟩
set_option maxHeartbeats 4000000 in
theorem for_any (w : World) (A N rb : Nat) (v : Value) (xs : List Nm) (c : List UInt8) (h : RegAt w A N rb v xs) (hx : xs.length ≤ 1048576) (hl : ∀ e ∈ xs, e.x.a.length ≤ 1073741824 ∧ e.x.w.length ≤ 1073741824) (hc : c.length ≤ 1073741824) :
    Calls Tryz.prog 19 #[.pointer (some ⟨rb, 0, none⟩), .string (B c)] w (GetP (forQ (gotN xs) c) w) := by
  have HG := Lib.hid fun s W (hb : Below w.heap.size w W) => get_any W A N rb v xs s (h.below hb) hx hl
  unfold GetP at HG
  have HF := Lib.hid (show forQ (gotN xs) c = if c = [] then gotN xs [45, 69] else if Lib.hasPrefix (baseL c) [45] = true then gotN xs [45, 68] else if (gotN xs (baseL c)).2 = true then gotN xs (baseL c) else gotN xs [45, 68] from rfl)
  generalize forQ (gotN xs) c = q at *
  clear h hl
  by_cases h0 : c = []
  · rw [if_pos h0] at HF
    subst h0
    clear hc
    have HE := Lib.hid fun W hb => HG.out [45, 69] W hb
    generalize gotN xs [45, 69] = q1 at *
    obtain ⟨⟨qa, qw, qg, qx, qp, qs⟩, qb⟩ := q1
    dsimp only at HE
    go_enter Tryz.func19, Tryz.ntmps19
    go_wp2_with (go_at_call 16; (with_reducible refine (HE.out _ (below_alloc (Below.refl w.heap.size w) _)).mono ?_); rintro e3 w3 ⟨va3, vw3, rfl, ha3, hw3, hb3⟩; have HX3 := Lib.hid ((BoxN.new w sp0V 26).below hb3); have HB3 := Lib.hid (below_then (below_alloc (Below.refl w.heap.size w) _) hb3); have HA3 := Lib.hid (ha3.mono (show w.heap.size + 1 ≤ _ by simp)); have HW3 := Lib.hid (hw3.mono (show w.heap.size + 1 ≤ _ by simp)); obtain ⟨B3, b3, rfl, -⟩ := HA3.out.form0; obtain ⟨D3, d3, rfl, -⟩ := HW3.out.form0; obtain ⟨⟨r0, r1, r2, r3, r4, r5⟩, f0, f1, f2, f3, f4, f5⟩ := box6 HX3.out; haveI : Old w3 w.heap.size := ⟨HX3.out.lt⟩; clear ha3 hw3 hb3)
    obtain ⟨hbx, hk⟩ := box_fill6 HX3.out (.slice B3 qa.length b3) (.slice D3 qw.length d3) (.string (B qg)) (.string (B qx)) (.string (B qp)) (.string (B qs))
    obtain ⟨⟨t0, t1, t2, t3, t4, t5⟩, -⟩ := box6 hbx
    refine bodyPost_ret (v := .tuple #[spV (.slice B3 qa.length b3) (.slice D3 qw.length d3) ⟨qa, qw, qg, qx, qp, qs⟩, .bool qb]) (by simp [results, Tryz.results19, go_sem, t0, t1, t2, t3, t4, t5]) rfl ?_
    rw [HF.out]
    exact ⟨_, _, rfl, (own_keeps2 HA3.out hk (fun k e => by omega)).mono (by omega), (own_keeps2 HW3.out hk (fun k e => by omega)).mono (by omega), below_keeps HB3.out hk (fun k e => by omega)⟩
  rw [if_neg h0] at HF
  have hne : (c == []) = false := by rw [beq_eq_false_iff_ne]; exact h0
  obtain ⟨k, hk1, hk2, hk3⟩ := base_is c
  have hbl := base_len c
  have HLX := Lib.hid fun W => last20_c c W hc
  obtain ⟨z, hz⟩ : ∃ z : Int, Lib.lastIndexByte (B c) 47 = z := ⟨_, rfl⟩
  rw [hz] at hk2 HLX
  have hzk : z = (k : Int) - 1 := by omega
  subst hzk
  have hiw : IntKind.i64.wrap ((k : Int) - 1 + 1) = (k : Int) := by rw [IntWalk.i64_in _ (by omega)]; omega
  have hiw2 : (k : Int) - 1 + 1 = (k : Int) := by omega
  have m0 : (0 : Int) ≤ (k : Int) := by omega
  have m1 : (k : Int) ≤ (c.length : Int) := by omega
  have HPX := Lib.hid fun W => prefix20_b (baseL c) [45] W
  rw [← hk3] at HF HPX
  clear hz hbl h0 hk2 hk3
  cases hp : Lib.hasPrefix (c.drop k) [45] with
  | true =>
    rw [hp] at HPX HF
    rw [if_pos rfl] at HF
    clear hp
    have HE := Lib.hid fun W hb => HG.out [45, 68] W hb
    generalize gotN xs [45, 68] = q1 at *
    obtain ⟨⟨qa, qw, qg, qx, qp, qs⟩, qb⟩ := q1
    dsimp only at HE
    go_enter Tryz.func19, Tryz.ntmps19
    go_wp2_with (first
      | (go_at_call 37; refine (HLX.out _).mono ?_; rintro e w' ⟨rfl, rfl⟩)
      | (go_at_call 38; refine (HPX.out _).mono ?_; rintro e w' ⟨rfl, rfl⟩)
      | (go_at_call 16; (with_reducible refine (HE.out _ (below_alloc (Below.refl w.heap.size w) _)).mono ?_); rintro e3 w3 ⟨va3, vw3, rfl, ha3, hw3, hb3⟩; have HX3 := Lib.hid ((BoxN.new w sp0V 26).below hb3); have HB3 := Lib.hid (below_then (below_alloc (Below.refl w.heap.size w) _) hb3); have HA3 := Lib.hid (ha3.mono (show w.heap.size + 1 ≤ _ by simp)); have HW3 := Lib.hid (hw3.mono (show w.heap.size + 1 ≤ _ by simp)); obtain ⟨B3, b3, rfl, -⟩ := HA3.out.form0; obtain ⟨D3, d3, rfl, -⟩ := HW3.out.form0; obtain ⟨⟨r0, r1, r2, r3, r4, r5⟩, f0, f1, f2, f3, f4, f5⟩ := box6 HX3.out; haveI : Old w3 w.heap.size := ⟨HX3.out.lt⟩; clear ha3 hw3 hb3))
    obtain ⟨hbx, hk⟩ := box_fill6 HX3.out (.slice B3 qa.length b3) (.slice D3 qw.length d3) (.string (B qg)) (.string (B qx)) (.string (B qp)) (.string (B qs))
    obtain ⟨⟨t0, t1, t2, t3, t4, t5⟩, -⟩ := box6 hbx
    refine bodyPost_ret (v := .tuple #[spV (.slice B3 qa.length b3) (.slice D3 qw.length d3) ⟨qa, qw, qg, qx, qp, qs⟩, .bool qb]) (by simp [results, Tryz.results19, go_sem, t0, t1, t2, t3, t4, t5]) rfl ?_
    rw [HF.out]
    exact ⟨_, _, rfl, (own_keeps2 HA3.out hk (fun k e => by omega)).mono (by omega), (own_keeps2 HW3.out hk (fun k e => by omega)).mono (by omega), below_keeps HB3.out hk (fun k e => by omega)⟩
  | false =>
    rw [hp] at HPX HF
    rw [if_neg (by simp)] at HF
    clear hp
    have HE := Lib.hid fun W hb => HG.out (c.drop k) W hb
    have HE2 := Lib.hid fun W hb => HG.out [45, 68] W hb
    generalize gotN xs (c.drop k) = q1 at *
    generalize gotN xs [45, 68] = q2 at *
    obtain ⟨⟨qa, qw, qg, qx, qp, qs⟩, qb⟩ := q1
    obtain ⟨⟨ua, uw, ug, ux, up, us⟩, ub⟩ := q2
    dsimp only at HE HE2 HF
    cases qb with
    | true =>
      rw [if_pos rfl] at HF
      go_enter Tryz.func19, Tryz.ntmps19
      go_wp2_with (first
        | (go_at_call 37; refine (HLX.out _).mono ?_; rintro e w' ⟨rfl, rfl⟩)
        | (go_at_call 38; refine (HPX.out _).mono ?_; rintro e w' ⟨rfl, rfl⟩)
        | (go_at_call 16; (with_reducible refine (HE.out _ (below_alloc (Below.refl w.heap.size w) _)).mono ?_); rintro e3 w3 ⟨va3, vw3, rfl, ha3, hw3, hb3⟩; have HX3 := Lib.hid ((BoxN.new w sp0V 26).below hb3); have HB3 := Lib.hid (below_then (below_alloc (Below.refl w.heap.size w) _) hb3); have HA3 := Lib.hid (ha3.mono (show w.heap.size + 1 ≤ _ by simp)); have HW3 := Lib.hid (hw3.mono (show w.heap.size + 1 ≤ _ by simp)); obtain ⟨B3, b3, rfl, -⟩ := HA3.out.form0; obtain ⟨D3, d3, rfl, -⟩ := HW3.out.form0; obtain ⟨⟨r0, r1, r2, r3, r4, r5⟩, f0, f1, f2, f3, f4, f5⟩ := box6 HX3.out; haveI : Old w3 w.heap.size := ⟨HX3.out.lt⟩; clear ha3 hw3 hb3))
      obtain ⟨hbx, hk⟩ := box_fill6 HX3.out (.slice B3 qa.length b3) (.slice D3 qw.length d3) (.string (B qg)) (.string (B qx)) (.string (B qp)) (.string (B qs))
      have hal := fun W => below_alloc (Below.refl W.heap.size W) (.cells #[.slice B3 qa.length b3, .slice D3 qw.length d3, .string (B qg), .string (B qx), .string (B qp), .string (B qs)] 26)
      obtain ⟨⟨t0, t1, t2, t3, t4, t5⟩, -⟩ := box6 (hbx.below (hal _))
      refine bodyPost_ret (v := .tuple #[spV (.slice B3 qa.length b3) (.slice D3 qw.length d3) ⟨qa, qw, qg, qx, qp, qs⟩, .bool true]) (by simp [results, Tryz.results19, go_sem, t0, t1, t2, t3, t4, t5]) rfl ?_
      rw [HF.out]
      exact ⟨_, _, rfl, ((own_keeps2 HA3.out hk (fun k e => by omega)).below (hal _)).mono (by omega), ((own_keeps2 HW3.out hk (fun k e => by omega)).below (hal _)).mono (by omega), below_then (below_keeps HB3.out hk (fun k e => by omega)) (hal _)⟩
    | false =>
      rw [if_neg (by simp)] at HF
      go_enter Tryz.func19, Tryz.ntmps19
      go_wp2_with (first
        | (go_at_call 37; refine (HLX.out _).mono ?_; rintro e w' ⟨rfl, rfl⟩)
        | (go_at_call 38; refine (HPX.out _).mono ?_; rintro e w' ⟨rfl, rfl⟩)
        | (go_at_call 16; (with_reducible refine (HE.out _ (below_alloc (Below.refl w.heap.size w) _)).mono ?_); rintro e3 w3 ⟨va3, vw3, rfl, ha3, hw3, hb3⟩; have HX3 := Lib.hid ((BoxN.new w sp0V 26).below hb3); have HB3 := Lib.hid (below_then (below_alloc (Below.refl w.heap.size w) _) hb3); have HA3 := Lib.hid (ha3.mono (show w.heap.size + 1 ≤ _ by simp)); have HW3 := Lib.hid (hw3.mono (show w.heap.size + 1 ≤ _ by simp)); obtain ⟨B3, b3, rfl, -⟩ := HA3.out.form0; obtain ⟨D3, d3, rfl, -⟩ := HW3.out.form0; obtain ⟨⟨r0, r1, r2, r3, r4, r5⟩, f0, f1, f2, f3, f4, f5⟩ := box6 HX3.out; haveI : Old w3 w.heap.size := ⟨HX3.out.lt⟩; clear ha3 hw3 hb3)
        | (go_at_call 16; (with_reducible refine (HE2.out _ (below_alloc HB3.out _)).mono ?_); rintro e4 w4 ⟨va4, vw4, rfl, ha4, hw4, hb4⟩; have HX4 := Lib.hid ((HX3.out.below (below_alloc (Below.refl _ _) _)).below hb4); have HB4 := Lib.hid (below_then (below_alloc HB3.out _) hb4); have HA4 := Lib.hid (ha4.mono (show w.heap.size + 1 ≤ _ by have := HX3.out.lt; simp; omega)); have HW4 := Lib.hid (hw4.mono (show w.heap.size + 1 ≤ _ by have := HX3.out.lt; simp; omega)); obtain ⟨B4, b4, rfl, -⟩ := HA4.out.form0; obtain ⟨D4, d4, rfl, -⟩ := HW4.out.form0; clear r0 r1 r2 r3 r4 r5 f0 f1 f2 f3 f4 f5; obtain ⟨⟨r0, r1, r2, r3, r4, r5⟩, f0, f1, f2, f3, f4, f5⟩ := box6 HX4.out; haveI : Old w4 w.heap.size := ⟨HX4.out.lt⟩; clear ha4 hw4 hb4))
      obtain ⟨hbx, hk⟩ := box_fill6 HX4.out (.slice B4 ua.length b4) (.slice D4 uw.length d4) (.string (B ug)) (.string (B ux)) (.string (B up)) (.string (B us))
      obtain ⟨⟨t0, t1, t2, t3, t4, t5⟩, -⟩ := box6 hbx
      refine bodyPost_ret (v := .tuple #[spV (.slice B4 ua.length b4) (.slice D4 uw.length d4) ⟨ua, uw, ug, ux, up, us⟩, .bool ub]) (by simp [results, Tryz.results19, go_sem, t0, t1, t2, t3, t4, t5]) rfl ?_
      rw [HF.out]
      exact ⟨_, _, rfl, (own_keeps2 HA4.out hk (fun k e => by omega)).mono (by omega), (own_keeps2 HW4.out hk (fun k e => by omega)).mono (by omega), below_keeps HB4.out hk (fun k e => by omega)⟩
end Go.Proofs.YtljinmfkogmmlaaGreat.Spc
/-
  The walk of layer 20's registry, on: Of. Conditions: fewer than 10000 names; rows of at most 2^30.
-/
namespace Go.Proofs.YtljinmfkogmmlaaGreat.Spc
open Go.ChangeShapes Go.WideShapes Go.Deep Go.RowKit Tab Mc Pa Quo
set_option linter.unusedSimpArgs false
set_option linter.unusedVariables false
set_option maxRecDepth 100000
end Go.Proofs.YtljinmfkogmmlaaGreat.Spc
/-
  The walks of layer 20's reference registry: Get, Remove. Conditions: at most 2^20 names.
-/
namespace Go.Proofs.YtljinmfkogmmlaaGreat.Spc
open Go.ChangeShapes Go.WideShapes Go.Deep Go.RowKit Tab Mc Pa Quo
set_option linter.unusedSimpArgs false
set_option linter.unusedVariables false
set_option maxRecDepth 100000
/-- The first one of a name. -/
def getM (xs : List Nm) (s : List UInt8) : Option Nm := xs.find? fun e => e.n == s
def getR : Option Nm → Value
  | none => .tuple #[spV (.slice none 0 0) (.slice none 0 0) sp0, .int .i64 0]
  | some e => .tuple #[spV e.va e.vw e.x, .int .i64 1]
theorem rGet20_any (xs : List Nm) (v : Value) (s : List UInt8) (w : World) (hv : Sl w namC 7 v xs) (hx : xs.length ≤ 1048576) (hsl : ∀ e ∈ xs, ∃ A c B d, e.va = .slice A e.x.a.length c ∧ e.vw = .slice B e.x.w.length d) : Calls Tryz.prog 20 #[v, .string (B s)] w fun e w' => e = .returned (getR (getM xs s)) ∧ Below w.heap.size w w' := by
  obtain ⟨A, c, rfl, hc1, hc2, hn, hA⟩ := hv
  have HA := Lib.hid hA
  have HSL := Lib.hid hsl
  clear hA hn hsl
  go_enter Tryz.func20, Tryz.ntmps20
  go_wp2
  have HX := Lib.hid (BoxN.new w sp0V 26)
  have HB := Lib.hid (below_alloc (Below.refl w.heap.size w) (.cells sp0V.toArray 26))
  unfold sp0V at HX HB
  generalize w.alloc _ = W at *
  obtain ⟨⟨r0, r1, r2, r3, r4, r5⟩, f0, f1, f2, f3, f4, f5⟩ := box6 HX.out
  haveI : Old W w.heap.size := ⟨HX.out.lt⟩
  go_loopw [6] (fun i w' => ∃ k : Nat, k ≤ xs.length ∧ i = .int .i64 k ∧ W = w' ∧ Hid (getM xs s = getM (xs.drop k) s)) (fun i _ => xs.length - (intOf i).toNat)
  case atStart => exact ⟨0, by omega, rfl, rfl, rfl⟩
  case round =>
    obtain ⟨k, hk, rfl, rfl, HG⟩ := hrel
    by_cases hlt : k < xs.length
    · obtain ⟨b, off, rfl, hb, hc⟩ := HA.out (by omega)
      obtain ⟨x, hxm⟩ := get_some hlt
      have hG : ∀ j u, (namC x)[j]? = some u → W.cell? ⟨b, off + k * 7 + j, none⟩ = some u := fun j u hj => (HB.out.cell (p := ⟨b, off + k * 7 + j, none⟩) hb).trans (hc k _ hxm j _ hj)
      have e0 := hG 0 _ rfl
      have e1 := hG 1 _ rfl
      have e2 := hG 2 _ rfl
      have e3 := hG 3 _ rfl
      have e4 := hG 4 _ rfl
      have e5 := hG 5 _ rfl
      have e6 := hG 6 _ rfl
      simp only [Nat.add_zero] at e0
      haveI : Old W b := ⟨Nat.lt_of_lt_of_le hb HB.out.size⟩
      have k0 : (0 : Int) ≤ (k : Int) := by omega
      have k1 : (k : Int) < (xs.length : Int) := by omega
      have hst : getM (xs.drop k) s = if (x.n == s) = true then some x else getM (xs.drop (k + 1)) s := by
        obtain ⟨_, rfl⟩ := List.getElem?_eq_some_iff.1 hxm
        rw [List.drop_eq_getElem_cons hlt]
        unfold getM
        rw [List.find?_cons]
        split <;> simp_all
      have HS := Lib.hid hst
      obtain ⟨Ax, cx, Bx, dx, hva, hvw⟩ := HSL.out x (List.mem_of_getElem? hxm)
      obtain ⟨xn, xa, xw, xx⟩ := x
      dsimp only at *
      subst hva hvw
      clear hst hc hxm hG
      cases hq : (xn == s) with
      | true =>
        rw [hq, if_pos rfl] at HS
        go_wp2
        obtain ⟨hbx, hk⟩ := box_fill6 HX.out (.slice Ax xx.a.length cx) (.slice Bx xx.w.length dx) (.string (B xx.g)) (.string (B xx.x)) (.string (B xx.p)) (.string (B xx.s))
        obtain ⟨⟨t0, t1, t2, t3, t4, t5⟩, -⟩ := box6 hbx
        refine bodyPost_ret (v := .tuple #[spV (.slice Ax xx.a.length cx) (.slice Bx xx.w.length dx) xx, .int .i64 1]) (by simp [results, Tryz.results20, go_sem, t0, t1, t2, t3, t4, t5]) rfl ?_
        refine ⟨?_, below_keeps HB.out hk (fun k e => by omega)⟩
        rw [HG.out, HS.out]
        rfl
      | false =>
        rw [hq, if_neg (by simp)] at HS
        go_wp2
        go_roundw
        case rel => exact ⟨k + 1, by omega, by go_num, by trivial, by show _ = _; rw [HG.out, HS.out]⟩
        case measure => simp [intOf]; omega
    · have HE := Lib.hid (show getM xs s = none by rw [HG.out, List.drop_eq_nil_of_le (by omega)]; rfl)
      have d0 := no hlt
      clear hlt
      go_wp2
      obtain ⟨hbx, hk⟩ := box_fill6 HX.out (.slice none 0 0) (.slice none 0 0) (.string (B [])) (.string (B [])) (.string (B [])) (.string (B []))
      obtain ⟨⟨t0, t1, t2, t3, t4, t5⟩, -⟩ := box6 hbx
      refine bodyPost_ret (v := .tuple #[spV (.slice none 0 0) (.slice none 0 0) sp0, .int .i64 0]) (by simp [results, Tryz.results20, go_sem, t0, t1, t2, t3, t4, t5, sp0]) rfl ?_
      refine ⟨?_, below_keeps HB.out hk (fun k e => by omega)⟩
      rw [HE.out]
      rfl
def RowN (ys : List Nm) (w : World) (e : Ending) (w' : World) : Prop := ∃ v, e = .returned v ∧ Own w' w.heap.size 7 v ys.length (ys.flatMap namC) ∧ (v.ownBlock = none ∨ ∀ k, v.ownBlock = some k → w.heap.size ≤ k) ∧ Below w.heap.size w w'
/-- The names but one. -/
def butM (xs : List Nm) (s : List UInt8) : List Nm := xs.filter fun e => !(e.n == s)
theorem butM_le (xs : List Nm) (s : List UInt8) : (butM xs s).length ≤ xs.length := List.length_filter_le _ _
theorem butM_snoc (xs : List Nm) (s : List UInt8) (k : Nat) (x : Nm) (h : xs[k]? = some x) : butM (xs.take (k + 1)) s = if (x.n == s) = true then butM (xs.take k) s else butM (xs.take k) s ++ [x] := by
  obtain ⟨h1, rfl⟩ := List.getElem?_eq_some_iff.1 h
  unfold butM
  rw [List.take_succ_eq_append_getElem h1, List.filter_append]
  cases hq : (xs[k].n == s) <;> simp [hq]
/-- Where an own slice lies that isn't empty. -/
theorem own_ge7 {w : World} {b0 sz n : Nat} {v : Value} {xs : List Value} (h : Own w b0 sz v n xs) (hn : 0 < n) : ∀ k, v.ownBlock = some k → b0 ≤ k := by
  intro k hk
  rcases h.2 with ⟨h0, _⟩ | ⟨g, off, c, rfl, h1, _⟩
  · omega
  · simp [Value.ownBlock] at hk
    omega
set_option maxHeartbeats 1600000 in
theorem rRemove_any (xs : List Nm) (v : Value) (s : List UInt8) (w : World) (hv : Sl w namC 7 v xs) (hx : xs.length ≤ 1048576) (hone : ∀ e ∈ xs, ∀ u ∈ namC e, u.oneCell' = true) : Calls Tryz.prog 23 #[v, .string (B s)] w (RowN (butM xs s) w) := by
  obtain ⟨i0, hi0, hz00, hz01, hz02⟩ := info_parts info_nam
  obtain ⟨A, c, rfl, hc1, hc2, hn, hA⟩ := hv
  have HA := Lib.hid hA
  have HONE := Lib.hid hone
  clear hA hn hone
  go_enter Tryz.func23, Tryz.ntmps23
  go_wp2
  go_loopw [5, 6] (fun o i w' => ∃ (v : Value) (k : Nat), v = o ∧ k ≤ xs.length ∧ i = .int .i64 k ∧ Hid (Own w' w.heap.size 7 v (butM (xs.take k) s).length ((butM (xs.take k) s).flatMap namC)) ∧ Hid (v.ownBlock = none ∨ ∀ k, v.ownBlock = some k → w.heap.size ≤ k) ∧ Below w.heap.size w w') (fun _ i _ => xs.length - (intOf i).toNat)
  case atStart => exact ⟨_, 0, rfl, by omega, rfl, Own.nil _ _ _, .inl rfl, Below.refl _ _⟩
  case round =>
    obtain ⟨v, k, rfl, hk, rfl, HO, HD, hbl⟩ := hrel
    have hbs := hbl.size
    by_cases hlt : k < xs.length
    · obtain ⟨b, off, rfl, hb, hc⟩ := HA.out (by omega)
      obtain ⟨x, hxm⟩ := get_some hlt
      have hG : ∀ j u, (namC x)[j]? = some u → wr.cell? ⟨b, off + k * 7 + j, none⟩ = some u := fun j u hj => (hbl.cell (p := ⟨b, off + k * 7 + j, none⟩) hb).trans (hc k _ hxm j _ hj)
      have e0 := hG 0 _ rfl
      have e1 := hG 1 _ rfl
      have e2 := hG 2 _ rfl
      have e3 := hG 3 _ rfl
      have e4 := hG 4 _ rfl
      have e5 := hG 5 _ rfl
      have e6 := hG 6 _ rfl
      simp only [Nat.add_zero] at e0
      haveI : Old wr b := ⟨by omega⟩
      have k0 : (0 : Int) ≤ (k : Int) := by omega
      have k1 : (k : Int) < (xs.length : Int) := by omega
      have HS := Lib.hid (butM_snoc xs s k x hxm)
      have hle := butM_le (xs.take k) s
      rw [List.length_take] at hle
      have HX1 := Lib.hid (HONE.out x (List.mem_of_getElem? hxm))
      clear hc hxm hG
      cases hq : (x.n == s) with
      | true =>
        rw [hq, if_pos rfl] at HS
        have hq2 : (x.n != s) = false := by rw [bne, hq]; rfl
        go_wp2
        go_roundw
        case rel => exact ⟨v, k + 1, rfl, by omega, by go_num, by rw [HS.out]; exact HO.out, HD.out, hbl⟩
        case measure => simp [intOf]; omega
      | false =>
        rw [hq, if_neg (by simp)] at HS
        have hq2 : (x.n != s) = true := by rw [bne, hq]; rfl
        go_wp2_with ((at_builtin; refine wpList_append_src _ rfl (.tmp 20) (.tmp 25) _ rfl w.heap.size 43 i0 _ 7 128 Tryz.underlying41 hi0 hz00 hz01 hz02 rfl (by decide) _ (butM (xs.take k) s).length ((butM (xs.take k) s).flatMap namC) rfl (HO.out.below (by (repeat (first | exact Below.refl _ _ | assumption | with_reducible refine below_alloc ?_ _ | with_reducible refine below_grow ?_ _ | with_reducible refine below_drewN ?_ _ | with_reducible refine below_drew ?_ | with_reducible refine below_setCell ?_ (by first | (dsimp only; omega) | (simp; done) | (simp; omega)) _)))) _ 1 (namC x) rfl rfl (Src.one _ _ _ _) HX1.out (by unfold maxLen; omega) (by omega) (by first | (simp; done) | omega | (simp; omega)) ?_; intro v2 w2 hown2 hg2 hat2 hty2; have HTY2 := Lib.hid hty2; clear hty2); have HO2 := Lib.hid hown2; have HB2 := Lib.hid (below_keeps (below_then hbl (below_alloc (Below.refl _ _) _)) hg2 (fun k hk => hk.2)); clear hown2 hg2 hat2)
        go_roundw
        case rel => exact ⟨v2, k + 1, rfl, by omega, by go_num, by
          show Own _ _ _ _ _ _
          rw [HS.out]
          simpa [List.flatMap_append] using HO2.out, .inr (own_ge7 HO2.out (by omega)), HB2.out⟩
        case measure => simp [intOf]; omega
    · have hk2 : k = xs.length := by omega
      have ho := HO.out
      rw [hk2, List.take_length] at ho
      have HO2 := Lib.hid ho
      have d0 := no hlt
      clear hk2 hlt ho
      go_wp2
      go_ret
      exact ⟨v, rfl, HO2.out, HD.out, hbl⟩
end Go.Proofs.YtljinmfkogmmlaaGreat.Spc
/-
  The walks of layer 20's reference registry, on: Set. Conditions: fewer than 10000 names; rows of at most 2^30.
-/
namespace Go.Proofs.YtljinmfkogmmlaaGreat.Spc
open Go.ChangeShapes Go.WideShapes Go.Deep Go.RowKit Tab Mc Pa Quo
set_option linter.unusedSimpArgs false
set_option linter.unusedVariables false
set_option maxRecDepth 100000
theorem rSet_bad (us : List Nm) (v : Value) (s : List UInt8) (va vw : Value) (x : Sp) (w : World) (hs : s.length ≤ 1073741824) (ha : Sl w numC 1 va x.a) (hw : Sl w strC 1 vw x.w) (hla : x.a.length ≤ 1073741824) (hlw : x.w.length ≤ 1073741824) (hc : chk20 s x ≠ 0) :
    Calls Tryz.prog 21 #[v, .string (B s), spV va vw x] w fun e w' => e = .returned (.tuple #[v, .int .i64 (chk20 s x)]) ∧ Below w.heap.size w w' := by
  have HM := Lib.hid fun w => rMay_any s w hs
  have HG := Lib.hid fun W (hb : Below w.heap.size w W) => rGood_any va vw x W (ha.below hb) (hw.below hb) hla hlw
  have HQ := Lib.hid (show chk20 s x = if spMay s = false then 5 else if goodB x = false then 4 else 0 from rfl)
  obtain ⟨Aa, ca, rfl, _⟩ := ha
  obtain ⟨Aw, cw, rfl, _⟩ := hw
  have HC := Lib.hid hc
  clear hc
  generalize chk20 s x = q at *
  cases hm : spMay s with
  | false =>
    rw [hm] at HM
    rw [hm, if_pos rfl] at HQ
    go_enter Tryz.func21, Tryz.ntmps21
    go_wp2_with (go_at_call 12; refine (HM.out _).mono ?_; rintro e w' ⟨rfl, rfl⟩)
    go_ret2
    exact ⟨by rw [HQ.out]; rfl, by (repeat (first | exact Below.refl _ _ | assumption | with_reducible refine below_alloc ?_ _ | with_reducible refine below_grow ?_ _ | with_reducible refine below_drewN ?_ _ | with_reducible refine below_drew ?_ | with_reducible refine below_setCell ?_ (by first | (dsimp only; omega) | (simp; done) | (simp; omega)) _))⟩
  | true =>
    rw [hm] at HM
    rw [hm, if_neg (by simp)] at HQ
    cases hg : goodB x with
    | false =>
      rw [hg] at HG
      rw [hg, if_pos rfl] at HQ
      go_enter Tryz.func21, Tryz.ntmps21
      go_wp2_with (first
        | (go_at_call 12; refine (HM.out _).mono ?_; rintro e w' ⟨rfl, rfl⟩)
        | (go_at_call 13; refine (HG.out _ (by (repeat (first | exact Below.refl _ _ | assumption | with_reducible refine below_alloc ?_ _ | with_reducible refine below_grow ?_ _ | with_reducible refine below_drewN ?_ _ | with_reducible refine below_drew ?_ | with_reducible refine below_setCell ?_ (by first | (dsimp only; omega) | (simp; done) | (simp; omega)) _)))).mono ?_; rintro e w3 ⟨rfl, hb⟩; have HB := Lib.hid (below_then (below_alloc (Below.refl w.heap.size w) _) hb); clear hb))
      go_ret2
      exact ⟨by rw [HQ.out]; rfl, HB.out⟩
    | true =>
      rw [hg, if_neg (by simp)] at HQ
      exact absurd HQ.out HC.out
def RSetP (ys : List Nm) (w : World) (e : Ending) (w' : World) : Prop := ∃ v', e = .returned (.tuple #[v', .int .i64 0]) ∧ Own w' w.heap.size 7 v' ys.length (ys.flatMap namC) ∧ (∀ k, v'.ownBlock = some k → w.heap.size ≤ k) ∧ Below w.heap.size w w'
set_option maxHeartbeats 2000000 in
theorem rSet_ok (us : List Nm) (v : Value) (s : List UInt8) (va vw : Value) (x : Sp) (w : World) (hs : s.length ≤ 1073741824) (hv : Sl w namC 7 v us) (hx : us.length < 10000) (hone : ∀ e ∈ us, ∀ u ∈ namC e, u.oneCell' = true) (hsl : ∀ e ∈ us, Sl w numC 1 e.va e.x.a ∧ Sl w strC 1 e.vw e.x.w)
    (ha : Sl w numC 1 va x.a) (hw : Sl w strC 1 vw x.w) (hla : x.a.length ≤ 1073741824) (hlw : x.w.length ≤ 1073741824) (hc : chk20 s x = 0) :
    Calls Tryz.prog 21 #[v, .string (B s), spV va vw x] w (RSetP (butM us s ++ [⟨s, va, vw, x⟩]) w) := by
  obtain ⟨i0, hi0, hz00, hz01, hz02⟩ := info_parts info_nam
  have hm : spMay s = true := by
    cases h : spMay s
    · unfold chk20 at hc; rw [h] at hc; simp at hc
    · rfl
  have hg : goodB x = true := by
    cases h : goodB x
    · unfold chk20 at hc; rw [h, hm] at hc; simp at hc
    · rfl
  have HM := Lib.hid fun w => rMay_any s w hs
  have HG := Lib.hid fun W (hb : Below w.heap.size w W) => rGood_any va vw x W (ha.below hb) (hw.below hb) hla hlw
  rw [hm] at HM
  rw [hg] at HG
  have hfm : ∀ e ∈ us, ∃ A c B d, e.va = .slice A e.x.a.length c ∧ e.vw = .slice B e.x.w.length d := fun e he => by
    obtain ⟨⟨A, c, h1, _⟩, ⟨B, d, h2, _⟩⟩ := hsl e he
    exact ⟨A, c, B, d, h1, h2⟩
  have HGT := Lib.hid fun W (hb : Below w.heap.size w W) => rGet20_any us v s W (hv.below hb) (by omega) hfm
  have HRM := Lib.hid fun W (hb : Below w.heap.size w W) => rRemove_any us v s W (hv.below hb) (by omega) hone
  have HY1 := Lib.hid (nm_one (e := ⟨s, va, vw, x⟩) ha hw)
  have hbl := butM_le us s
  have HF := Lib.hid (show (butM us s ++ [(⟨s, va, vw, x⟩ : Nm)]).flatMap namC = (butM us s).flatMap namC ++ namC ⟨s, va, vw, x⟩ by rw [List.flatMap_append]; simp)
  have HLN := Lib.hid (show (butM us s ++ [(⟨s, va, vw, x⟩ : Nm)]).length = (butM us s).length + 1 by simp)
  unfold RowN at HRM
  obtain ⟨Av, cv, rfl, _⟩ := hv
  obtain ⟨Aa, ca, rfl, _⟩ := ha
  obtain ⟨Aw, cw, rfl, _⟩ := hw
  have q1 : ¬ (10000 : Int) ≤ (us.length : Int) := by omega
  have hgm : ∀ e, getM us s = some e → e ∈ us := fun e h => List.mem_of_find?_eq_some h
  generalize getM us s = gm at *
  unfold RSetP
  generalize butM us s ++ [(⟨s, .slice Aa x.a.length ca, .slice Aw x.w.length cw, x⟩ : Nm)] = ys at *
  generalize butM us s = zs at *
  have hzl : zs.length ≤ 10000 := by omega
  clear hm hg hc hone hsl hbl
  cases gm with
  | none =>
    unfold getR at HGT
    clear hgm
    go_enter Tryz.func21, Tryz.ntmps21
    go_wp2_with (first
      | (go_at_call 12; refine (HM.out _).mono ?_; rintro e w' ⟨rfl, rfl⟩)
      | (go_at_call 13; refine (HG.out _ (by (repeat (first | exact Below.refl _ _ | assumption | with_reducible refine below_alloc ?_ _ | with_reducible refine below_grow ?_ _ | with_reducible refine below_drewN ?_ _ | with_reducible refine below_drew ?_ | with_reducible refine below_setCell ?_ (by first | (dsimp only; omega) | (simp; done) | (simp; omega)) _)))).mono ?_; rintro e w3 ⟨rfl, hb⟩; have HB := Lib.hid (below_then (below_alloc (Below.refl w.heap.size w) _) hb); have HX := Lib.hid ((BoxN.new w [.slice Aa x.a.length ca, .slice Aw x.w.length cw, .string (B x.g), .string (B x.x), .string (B x.p), .string (B x.s)] 26).below hb); clear hb)
      | (go_at_call 20; refine (HGT.out _ HB.out).mono ?_; rintro e w4 ⟨rfl, hb4⟩; have HB4 := Lib.hid (below_then HB.out hb4); have HX4 := Lib.hid (HX.out.below hb4); clear hb4))
    have HB5 := Lib.hid (below_alloc HB4.out (.cells #[.slice none 0 0, .slice none 0 0, .string (B sp0.g), .string (B sp0.x), .string (B sp0.p), .string (B sp0.s)] 26))
    have HX5 := Lib.hid (HX4.out.below (below_alloc (Below.refl _ _) (.cells #[.slice none 0 0, .slice none 0 0, .string (B sp0.g), .string (B sp0.x), .string (B sp0.p), .string (B sp0.s)] 26)))
    generalize w4.alloc (.cells #[.slice none 0 0, .slice none 0 0, .string (B sp0.g), .string (B sp0.x), .string (B sp0.p), .string (B sp0.s)] 26) = w5 at *
    refine wp_region_keyed (fun W => W.cell? ⟨w.heap.size, 0, none⟩ = some (.slice Aa x.a.length ca) ∧ W.cell? ⟨w.heap.size, 1, none⟩ = some (.slice Aw x.w.length cw) ∧ W.cell? ⟨w.heap.size, 2, none⟩ = some (.string (B x.g)) ∧ W.cell? ⟨w.heap.size, 3, none⟩ = some (.string (B x.x)) ∧ W.cell? ⟨w.heap.size, 4, none⟩ = some (.string (B x.p)) ∧ W.cell? ⟨w.heap.size, 5, none⟩ = some (.string (B x.s))) [7] (by kernel_rfl) ?_
    have HX := Lib.hid (HX5.out.below (below_drew (Below.refl _ _)))
    have HB := Lib.hid (below_drew HB5.out)
    have HN : Hid True := Lib.hid trivial
    have HRV : Hid True := Lib.hid trivial
    generalize World.drew _ = D at *
    refine wpAnyK_take2 (i := 0) (some 32) (v := ?v0_1z26) rfl rfl (by kernel_rfl) (by kernel_rfl) (by kernel_rfl) (by kernel_rfl) (fun _ _ _ h => h) (Or.inl ⟨by rfl, ?y0_1z26⟩) (fun _ => (box6 HX.out).1) ?r0_1z26
    case y0_1z26 =>
      intro w hSw
      go_simp
      try with_reducible rfl
    try simp only [Act.put, List.setIfInBounds_toArray, List.set_cons_zero, List.set_cons_succ]
    refine wpAnyK_take2 (i := 1) (some 33) (v := ?v1_2z26) rfl rfl (by kernel_rfl) (by kernel_rfl) (by kernel_rfl) (by kernel_rfl) (fun _ _ _ h => h) (Or.inl ⟨by rfl, ?y1_2z26⟩) (fun _ => (box6 HX.out).1) ?r1_2z26
    case y1_2z26 =>
      intro w hSw
      go_simp
      try with_reducible rfl
    try simp only [Act.put, List.setIfInBounds_toArray, List.set_cons_zero, List.set_cons_succ]
    refine wpAnyK_take2 (i := 3) (some 35) (v := ?v3_3z26) rfl rfl (by kernel_rfl) (by kernel_rfl) (by kernel_rfl) (by kernel_rfl) (fun _ _ _ h => h) (Or.inl ⟨by rfl, ?y3_3z26⟩) (fun _ => (box6 HX.out).1) ?r3_3z26
    case y3_3z26 =>
      intro w hSw
      go_simp
      try with_reducible rfl
    try simp only [Act.put, List.setIfInBounds_toArray, List.set_cons_zero, List.set_cons_succ]
    refine wpAnyK_load2 (i := 4) [5, 6, 7, 8, 9] (some 36) (v := ?v4_4z26) rfl rfl (by kernel_rfl) (by kernel_rfl) (by kernel_rfl) (by kernel_rfl) (by kernel_rfl) (fun _ _ _ h => h) (Or.inl ⟨by rfl, ?y4_4z26⟩) (fun _ => (box6 HX.out).1) ?r4_4z26
    case y4_4z26 =>
      intro w hSw
      (try dsimp only at hSw)
      go_split_ands
      go_simp
      try with_reducible rfl
    try simp only [Act.put, List.setIfInBounds_toArray, List.set_cons_zero, List.set_cons_succ]
    refine wpAnyK_take2 (i := 5) (some 37) (v := ?v5_5z26) rfl rfl (by kernel_rfl) (by kernel_rfl) (by kernel_rfl) (by kernel_rfl) (fun _ _ _ h => h) (Or.inl ⟨by rfl, ?y5_5z26⟩) (fun _ => (box6 HX.out).1) ?r5_5z26
    case y5_5z26 =>
      intro w hSw
      go_simp
      try with_reducible rfl
    try simp only [Act.put, List.setIfInBounds_toArray, List.set_cons_zero, List.set_cons_succ]
    refine wpAnyK_ready (rs := [2, 6]) (by kernel_rfl) (by simp) ?_
    refine AllReadyK.cons (i := 2) rfl (fun K hK => ?_) ?_
    · go_simp
      refine (HRM.out D HB.out).mono ?_
      rintro e6 w6 ⟨v6, rfl, ho6, hd6, hb6⟩
      obtain ⟨A6, c6, rfl, -⟩ := ho6.form0
      dsimp only
      have HX := Lib.hid (HX.out.below hb6)
      try have HN := Lib.hid (HN.out.below hb6)
      have HRV := Lib.hid (ho6.mono HB.out.size)
      have HRD := Lib.hid (show ∀ k, (Value.slice A6 zs.length c6).ownBlock = some k → w.heap.size ≤ k from fun k hk => by
        rcases hd6 with e | e
        · rw [e] at hk; cases hk
        · have := e k hk; have := HB.out.size; omega)
      have HB := Lib.hid (below_then HB.out hb6)
      clear ho6 hd6 hb6
      obtain ⟨D, rfl⟩ : ∃ D, D = w6 := ⟨_, rfl⟩
      refine hK.out _ _ (fun _ => (box6 HX.out).1) ?_
      clear hK K
      try simp only [Act.put, List.setIfInBounds_toArray, List.set_cons_zero, List.set_cons_succ]
      refine wpAnyK_ready (rs := [6]) (by kernel_rfl) (by simp) ?_
      refine AllReadyK.cons (i := 6) rfl (fun K hK => ?_) ?_
      · go_simp
        have hal := below_alloc (Below.refl D.heap.size D) (.cells #[.string (B s), .slice Aa x.a.length ca, .slice Aw x.w.length cw, .string (B x.g), .string (B x.x), .string (B x.p), .string (B x.s)] 43)
        have HN := Lib.hid (BoxN.new D (namC ⟨s, .slice Aa x.a.length ca, .slice Aw x.w.length cw, x⟩) 43)
        have HN : Hid (BoxN (D.alloc (.cells #[.string (B s), .slice Aa x.a.length ca, .slice Aw x.w.length cw, .string (B x.g), .string (B x.x), .string (B x.p), .string (B x.s)] 43)) D.heap.size (namC ⟨s, .slice Aa x.a.length ca, .slice Aw x.w.length cw, x⟩)) := HN
        have HX := Lib.hid (HX.out.below hal)
        try have HRV := Lib.hid (HRV.out.below hal)
        have HB := Lib.hid (below_then HB.out hal)
        clear hal
        generalize D.heap.size = n6 at *
        generalize D.alloc (.cells #[.string (B s), .slice Aa x.a.length ca, .slice Aw x.w.length cw, .string (B x.g), .string (B x.x), .string (B x.p), .string (B x.s)] 43) = D at *
        refine hK.out _ _ (fun _ => (box6 HX.out).1) ?_
        clear hK K
        try simp only [Act.put, List.setIfInBounds_toArray, List.set_cons_zero, List.set_cons_succ]
        refine wpAnyK_ready (rs := [7]) (by kernel_rfl) (by simp) ?_
        refine AllReadyK.cons (i := 7) rfl (fun K hK => ?_) ?_
        · have hzz := HB.out.size
          (refine step_append_src _ rfl (.tmp 34) (.tmp 38) _ rfl w.heap.size 43 i0 _ 7 128 Tryz.underlying41 hi0 hz00 hz01 hz02 rfl (by decide) _ zs.length (zs.flatMap namC) rfl HRV.out _ 1 (namC ⟨s, .slice Aa x.a.length ca, .slice Aw x.w.length cw, x⟩) rfl rfl HN.out.src HY1.out (by unfold maxLen; omega) (by omega) (by first | (simp; done) | omega | (simp; omega)) ?_; intro v7 w7 hown7 hg7 hat7 hty7; have HTY7 := Lib.hid hty7; clear hty7)
          have HB := Lib.hid (below_keeps HB.out hg7 (fun k f => f.2))
          have HO := Lib.hid hown7
          have HD := Lib.hid (show ∀ k, v7.ownBlock = some k → w.heap.size ≤ k from fun k hk => by
            rcases hat7 with e | e
            · rw [e] at hk; exact HRD.out k hk
            · have := e k hk; omega)
          clear hown7 hg7 hat7 HTY7 hzz
          obtain ⟨D, rfl⟩ : ∃ D, D = w7 := ⟨_, rfl⟩
          refine hK.out _ _ (fun h => Bool.noConfusion ((show unl _ _ = false by kernel_rfl).symm.trans h)) ?_
          clear hK K
          try simp only [Act.put, List.setIfInBounds_toArray, List.set_cons_zero, List.set_cons_succ]
          refine wpAnyK_take2 (i := 8) (some 6) (v := ?v8_6z26) rfl rfl (by kernel_rfl) (by kernel_rfl) (by kernel_rfl) (by kernel_rfl) (fun _ _ _ h => h) (Or.inl ⟨by rfl, ?y8_6z26⟩) (fun h => Bool.noConfusion ((show unl _ _ = false by kernel_rfl).symm.trans h)) ?r8_6z26
          case y8_6z26 =>
            intro w hSw
            go_simp
            try with_reducible rfl
          try simp only [Act.put, List.setIfInBounds_toArray, List.set_cons_zero, List.set_cons_succ]
          refine wpAnyK_take2 (i := 9) (some 7) (v := ?v9_7z26) rfl rfl (by kernel_rfl) (by kernel_rfl) (by kernel_rfl) (by kernel_rfl) (fun _ _ _ h => h) (Or.inl ⟨by rfl, ?y9_7z26⟩) (fun h => Bool.noConfusion ((show unl _ _ = false by kernel_rfl).symm.trans h)) ?r9_7z26
          case y9_7z26 =>
            intro w hSw
            go_simp
            try with_reducible rfl
          try simp only [Act.put, List.setIfInBounds_toArray, List.set_cons_zero, List.set_cons_succ]
          refine wpAnyK_done (by kernel_rfl) ?_ _
          go_wp2_with fail
          go_ret2
          exact ⟨v7, rfl, by rw [HF.out, HLN.out]; exact HO.out, HD.out, HB.out⟩
        exact AllReadyK.nil
      exact AllReadyK.nil
    refine AllReadyK.cons (i := 6) rfl (fun K hK => ?_) ?_
    · go_simp
      have hal := below_alloc (Below.refl D.heap.size D) (.cells #[.string (B s), .slice Aa x.a.length ca, .slice Aw x.w.length cw, .string (B x.g), .string (B x.x), .string (B x.p), .string (B x.s)] 43)
      have HN := Lib.hid (BoxN.new D (namC ⟨s, .slice Aa x.a.length ca, .slice Aw x.w.length cw, x⟩) 43)
      have HN : Hid (BoxN (D.alloc (.cells #[.string (B s), .slice Aa x.a.length ca, .slice Aw x.w.length cw, .string (B x.g), .string (B x.x), .string (B x.p), .string (B x.s)] 43)) D.heap.size (namC ⟨s, .slice Aa x.a.length ca, .slice Aw x.w.length cw, x⟩)) := HN
      have HX := Lib.hid (HX.out.below hal)
      try have HRV := Lib.hid (HRV.out.below hal)
      have HB := Lib.hid (below_then HB.out hal)
      clear hal
      generalize D.heap.size = n6 at *
      generalize D.alloc (.cells #[.string (B s), .slice Aa x.a.length ca, .slice Aw x.w.length cw, .string (B x.g), .string (B x.x), .string (B x.p), .string (B x.s)] 43) = D at *
      refine hK.out _ _ (fun _ => (box6 HX.out).1) ?_
      clear hK K
      try simp only [Act.put, List.setIfInBounds_toArray, List.set_cons_zero, List.set_cons_succ]
      refine wpAnyK_ready (rs := [2]) (by kernel_rfl) (by simp) ?_
      refine AllReadyK.cons (i := 2) rfl (fun K hK => ?_) ?_
      · go_simp
        refine (HRM.out D HB.out).mono ?_
        rintro e6 w6 ⟨v6, rfl, ho6, hd6, hb6⟩
        obtain ⟨A6, c6, rfl, -⟩ := ho6.form0
        dsimp only
        have HX := Lib.hid (HX.out.below hb6)
        try have HN := Lib.hid (HN.out.below hb6)
        have HRV := Lib.hid (ho6.mono HB.out.size)
        have HRD := Lib.hid (show ∀ k, (Value.slice A6 zs.length c6).ownBlock = some k → w.heap.size ≤ k from fun k hk => by
          rcases hd6 with e | e
          · rw [e] at hk; cases hk
          · have := e k hk; have := HB.out.size; omega)
        have HB := Lib.hid (below_then HB.out hb6)
        clear ho6 hd6 hb6
        obtain ⟨D, rfl⟩ : ∃ D, D = w6 := ⟨_, rfl⟩
        refine hK.out _ _ (fun _ => (box6 HX.out).1) ?_
        clear hK K
        try simp only [Act.put, List.setIfInBounds_toArray, List.set_cons_zero, List.set_cons_succ]
        refine wpAnyK_ready (rs := [7]) (by kernel_rfl) (by simp) ?_
        refine AllReadyK.cons (i := 7) rfl (fun K hK => ?_) ?_
        · have hzz := HB.out.size
          (refine step_append_src _ rfl (.tmp 34) (.tmp 38) _ rfl w.heap.size 43 i0 _ 7 128 Tryz.underlying41 hi0 hz00 hz01 hz02 rfl (by decide) _ zs.length (zs.flatMap namC) rfl HRV.out _ 1 (namC ⟨s, .slice Aa x.a.length ca, .slice Aw x.w.length cw, x⟩) rfl rfl HN.out.src HY1.out (by unfold maxLen; omega) (by omega) (by first | (simp; done) | omega | (simp; omega)) ?_; intro v7 w7 hown7 hg7 hat7 hty7; have HTY7 := Lib.hid hty7; clear hty7)
          have HB := Lib.hid (below_keeps HB.out hg7 (fun k f => f.2))
          have HO := Lib.hid hown7
          have HD := Lib.hid (show ∀ k, v7.ownBlock = some k → w.heap.size ≤ k from fun k hk => by
            rcases hat7 with e | e
            · rw [e] at hk; exact HRD.out k hk
            · have := e k hk; omega)
          clear hown7 hg7 hat7 HTY7 hzz
          obtain ⟨D, rfl⟩ : ∃ D, D = w7 := ⟨_, rfl⟩
          refine hK.out _ _ (fun h => Bool.noConfusion ((show unl _ _ = false by kernel_rfl).symm.trans h)) ?_
          clear hK K
          try simp only [Act.put, List.setIfInBounds_toArray, List.set_cons_zero, List.set_cons_succ]
          refine wpAnyK_take2 (i := 8) (some 6) (v := ?v8_8z26) rfl rfl (by kernel_rfl) (by kernel_rfl) (by kernel_rfl) (by kernel_rfl) (fun _ _ _ h => h) (Or.inl ⟨by rfl, ?y8_8z26⟩) (fun h => Bool.noConfusion ((show unl _ _ = false by kernel_rfl).symm.trans h)) ?r8_8z26
          case y8_8z26 =>
            intro w hSw
            go_simp
            try with_reducible rfl
          try simp only [Act.put, List.setIfInBounds_toArray, List.set_cons_zero, List.set_cons_succ]
          refine wpAnyK_take2 (i := 9) (some 7) (v := ?v9_9z26) rfl rfl (by kernel_rfl) (by kernel_rfl) (by kernel_rfl) (by kernel_rfl) (fun _ _ _ h => h) (Or.inl ⟨by rfl, ?y9_9z26⟩) (fun h => Bool.noConfusion ((show unl _ _ = false by kernel_rfl).symm.trans h)) ?r9_9z26
          case y9_9z26 =>
            intro w hSw
            go_simp
            try with_reducible rfl
          try simp only [Act.put, List.setIfInBounds_toArray, List.set_cons_zero, List.set_cons_succ]
          refine wpAnyK_done (by kernel_rfl) ?_ _
          go_wp2_with fail
          go_ret2
          exact ⟨v7, rfl, by rw [HF.out, HLN.out]; exact HO.out, HD.out, HB.out⟩
        exact AllReadyK.nil
      exact AllReadyK.nil
    exact AllReadyK.nil
  | some g =>
    obtain ⟨Ag, cg, Bg, dg, hga, hgw⟩ := hfm g (hgm g rfl)
    unfold getR at HGT
    obtain ⟨gn, ga, gw, gx⟩ := g
    dsimp only at *
    subst hga hgw
    clear hgm hfm
    go_enter Tryz.func21, Tryz.ntmps21
    go_wp2_with (first
      | (go_at_call 12; refine (HM.out _).mono ?_; rintro e w' ⟨rfl, rfl⟩)
      | (go_at_call 13; refine (HG.out _ (by (repeat (first | exact Below.refl _ _ | assumption | with_reducible refine below_alloc ?_ _ | with_reducible refine below_grow ?_ _ | with_reducible refine below_drewN ?_ _ | with_reducible refine below_drew ?_ | with_reducible refine below_setCell ?_ (by first | (dsimp only; omega) | (simp; done) | (simp; omega)) _)))).mono ?_; rintro e w3 ⟨rfl, hb⟩; have HB := Lib.hid (below_then (below_alloc (Below.refl w.heap.size w) _) hb); have HX := Lib.hid ((BoxN.new w [.slice Aa x.a.length ca, .slice Aw x.w.length cw, .string (B x.g), .string (B x.x), .string (B x.p), .string (B x.s)] 26).below hb); clear hb)
      | (go_at_call 20; refine (HGT.out _ HB.out).mono ?_; rintro e w4 ⟨rfl, hb4⟩; have HB4 := Lib.hid (below_then HB.out hb4); have HX4 := Lib.hid (HX.out.below hb4); clear hb4))
    have HB5 := Lib.hid (below_alloc HB4.out (.cells #[.slice Ag gx.a.length cg, .slice Bg gx.w.length dg, .string (B gx.g), .string (B gx.x), .string (B gx.p), .string (B gx.s)] 26))
    have HX5 := Lib.hid (HX4.out.below (below_alloc (Below.refl _ _) (.cells #[.slice Ag gx.a.length cg, .slice Bg gx.w.length dg, .string (B gx.g), .string (B gx.x), .string (B gx.p), .string (B gx.s)] 26)))
    generalize w4.alloc (.cells #[.slice Ag gx.a.length cg, .slice Bg gx.w.length dg, .string (B gx.g), .string (B gx.x), .string (B gx.p), .string (B gx.s)] 26) = w5 at *
    refine wp_region_keyed (fun W => W.cell? ⟨w.heap.size, 0, none⟩ = some (.slice Aa x.a.length ca) ∧ W.cell? ⟨w.heap.size, 1, none⟩ = some (.slice Aw x.w.length cw) ∧ W.cell? ⟨w.heap.size, 2, none⟩ = some (.string (B x.g)) ∧ W.cell? ⟨w.heap.size, 3, none⟩ = some (.string (B x.x)) ∧ W.cell? ⟨w.heap.size, 4, none⟩ = some (.string (B x.p)) ∧ W.cell? ⟨w.heap.size, 5, none⟩ = some (.string (B x.s))) [7] (by kernel_rfl) ?_
    have HX := Lib.hid (HX5.out.below (below_drew (Below.refl _ _)))
    have HB := Lib.hid (below_drew HB5.out)
    have HN : Hid True := Lib.hid trivial
    have HRV : Hid True := Lib.hid trivial
    generalize World.drew _ = D at *
    refine wpAnyK_take2 (i := 0) (some 32) (v := ?v0_1z27) rfl rfl (by kernel_rfl) (by kernel_rfl) (by kernel_rfl) (by kernel_rfl) (fun _ _ _ h => h) (Or.inl ⟨by rfl, ?y0_1z27⟩) (fun _ => (box6 HX.out).1) ?r0_1z27
    case y0_1z27 =>
      intro w hSw
      go_simp
      try with_reducible rfl
    try simp only [Act.put, List.setIfInBounds_toArray, List.set_cons_zero, List.set_cons_succ]
    refine wpAnyK_take2 (i := 1) (some 33) (v := ?v1_2z27) rfl rfl (by kernel_rfl) (by kernel_rfl) (by kernel_rfl) (by kernel_rfl) (fun _ _ _ h => h) (Or.inl ⟨by rfl, ?y1_2z27⟩) (fun _ => (box6 HX.out).1) ?r1_2z27
    case y1_2z27 =>
      intro w hSw
      go_simp
      try with_reducible rfl
    try simp only [Act.put, List.setIfInBounds_toArray, List.set_cons_zero, List.set_cons_succ]
    refine wpAnyK_take2 (i := 3) (some 35) (v := ?v3_3z27) rfl rfl (by kernel_rfl) (by kernel_rfl) (by kernel_rfl) (by kernel_rfl) (fun _ _ _ h => h) (Or.inl ⟨by rfl, ?y3_3z27⟩) (fun _ => (box6 HX.out).1) ?r3_3z27
    case y3_3z27 =>
      intro w hSw
      go_simp
      try with_reducible rfl
    try simp only [Act.put, List.setIfInBounds_toArray, List.set_cons_zero, List.set_cons_succ]
    refine wpAnyK_load2 (i := 4) [5, 6, 7, 8, 9] (some 36) (v := ?v4_4z27) rfl rfl (by kernel_rfl) (by kernel_rfl) (by kernel_rfl) (by kernel_rfl) (by kernel_rfl) (fun _ _ _ h => h) (Or.inl ⟨by rfl, ?y4_4z27⟩) (fun _ => (box6 HX.out).1) ?r4_4z27
    case y4_4z27 =>
      intro w hSw
      (try dsimp only at hSw)
      go_split_ands
      go_simp
      try with_reducible rfl
    try simp only [Act.put, List.setIfInBounds_toArray, List.set_cons_zero, List.set_cons_succ]
    refine wpAnyK_take2 (i := 5) (some 37) (v := ?v5_5z27) rfl rfl (by kernel_rfl) (by kernel_rfl) (by kernel_rfl) (by kernel_rfl) (fun _ _ _ h => h) (Or.inl ⟨by rfl, ?y5_5z27⟩) (fun _ => (box6 HX.out).1) ?r5_5z27
    case y5_5z27 =>
      intro w hSw
      go_simp
      try with_reducible rfl
    try simp only [Act.put, List.setIfInBounds_toArray, List.set_cons_zero, List.set_cons_succ]
    refine wpAnyK_ready (rs := [2, 6]) (by kernel_rfl) (by simp) ?_
    refine AllReadyK.cons (i := 2) rfl (fun K hK => ?_) ?_
    · go_simp
      refine (HRM.out D HB.out).mono ?_
      rintro e6 w6 ⟨v6, rfl, ho6, hd6, hb6⟩
      obtain ⟨A6, c6, rfl, -⟩ := ho6.form0
      dsimp only
      have HX := Lib.hid (HX.out.below hb6)
      try have HN := Lib.hid (HN.out.below hb6)
      have HRV := Lib.hid (ho6.mono HB.out.size)
      have HRD := Lib.hid (show ∀ k, (Value.slice A6 zs.length c6).ownBlock = some k → w.heap.size ≤ k from fun k hk => by
        rcases hd6 with e | e
        · rw [e] at hk; cases hk
        · have := e k hk; have := HB.out.size; omega)
      have HB := Lib.hid (below_then HB.out hb6)
      clear ho6 hd6 hb6
      obtain ⟨D, rfl⟩ : ∃ D, D = w6 := ⟨_, rfl⟩
      refine hK.out _ _ (fun _ => (box6 HX.out).1) ?_
      clear hK K
      try simp only [Act.put, List.setIfInBounds_toArray, List.set_cons_zero, List.set_cons_succ]
      refine wpAnyK_ready (rs := [6]) (by kernel_rfl) (by simp) ?_
      refine AllReadyK.cons (i := 6) rfl (fun K hK => ?_) ?_
      · go_simp
        have hal := below_alloc (Below.refl D.heap.size D) (.cells #[.string (B s), .slice Aa x.a.length ca, .slice Aw x.w.length cw, .string (B x.g), .string (B x.x), .string (B x.p), .string (B x.s)] 43)
        have HN := Lib.hid (BoxN.new D (namC ⟨s, .slice Aa x.a.length ca, .slice Aw x.w.length cw, x⟩) 43)
        have HN : Hid (BoxN (D.alloc (.cells #[.string (B s), .slice Aa x.a.length ca, .slice Aw x.w.length cw, .string (B x.g), .string (B x.x), .string (B x.p), .string (B x.s)] 43)) D.heap.size (namC ⟨s, .slice Aa x.a.length ca, .slice Aw x.w.length cw, x⟩)) := HN
        have HX := Lib.hid (HX.out.below hal)
        try have HRV := Lib.hid (HRV.out.below hal)
        have HB := Lib.hid (below_then HB.out hal)
        clear hal
        generalize D.heap.size = n6 at *
        generalize D.alloc (.cells #[.string (B s), .slice Aa x.a.length ca, .slice Aw x.w.length cw, .string (B x.g), .string (B x.x), .string (B x.p), .string (B x.s)] 43) = D at *
        refine hK.out _ _ (fun _ => (box6 HX.out).1) ?_
        clear hK K
        try simp only [Act.put, List.setIfInBounds_toArray, List.set_cons_zero, List.set_cons_succ]
        refine wpAnyK_ready (rs := [7]) (by kernel_rfl) (by simp) ?_
        refine AllReadyK.cons (i := 7) rfl (fun K hK => ?_) ?_
        · have hzz := HB.out.size
          (refine step_append_src _ rfl (.tmp 34) (.tmp 38) _ rfl w.heap.size 43 i0 _ 7 128 Tryz.underlying41 hi0 hz00 hz01 hz02 rfl (by decide) _ zs.length (zs.flatMap namC) rfl HRV.out _ 1 (namC ⟨s, .slice Aa x.a.length ca, .slice Aw x.w.length cw, x⟩) rfl rfl HN.out.src HY1.out (by unfold maxLen; omega) (by omega) (by first | (simp; done) | omega | (simp; omega)) ?_; intro v7 w7 hown7 hg7 hat7 hty7; have HTY7 := Lib.hid hty7; clear hty7)
          have HB := Lib.hid (below_keeps HB.out hg7 (fun k f => f.2))
          have HO := Lib.hid hown7
          have HD := Lib.hid (show ∀ k, v7.ownBlock = some k → w.heap.size ≤ k from fun k hk => by
            rcases hat7 with e | e
            · rw [e] at hk; exact HRD.out k hk
            · have := e k hk; omega)
          clear hown7 hg7 hat7 HTY7 hzz
          obtain ⟨D, rfl⟩ : ∃ D, D = w7 := ⟨_, rfl⟩
          refine hK.out _ _ (fun h => Bool.noConfusion ((show unl _ _ = false by kernel_rfl).symm.trans h)) ?_
          clear hK K
          try simp only [Act.put, List.setIfInBounds_toArray, List.set_cons_zero, List.set_cons_succ]
          refine wpAnyK_take2 (i := 8) (some 6) (v := ?v8_6z27) rfl rfl (by kernel_rfl) (by kernel_rfl) (by kernel_rfl) (by kernel_rfl) (fun _ _ _ h => h) (Or.inl ⟨by rfl, ?y8_6z27⟩) (fun h => Bool.noConfusion ((show unl _ _ = false by kernel_rfl).symm.trans h)) ?r8_6z27
          case y8_6z27 =>
            intro w hSw
            go_simp
            try with_reducible rfl
          try simp only [Act.put, List.setIfInBounds_toArray, List.set_cons_zero, List.set_cons_succ]
          refine wpAnyK_take2 (i := 9) (some 7) (v := ?v9_7z27) rfl rfl (by kernel_rfl) (by kernel_rfl) (by kernel_rfl) (by kernel_rfl) (fun _ _ _ h => h) (Or.inl ⟨by rfl, ?y9_7z27⟩) (fun h => Bool.noConfusion ((show unl _ _ = false by kernel_rfl).symm.trans h)) ?r9_7z27
          case y9_7z27 =>
            intro w hSw
            go_simp
            try with_reducible rfl
          try simp only [Act.put, List.setIfInBounds_toArray, List.set_cons_zero, List.set_cons_succ]
          refine wpAnyK_done (by kernel_rfl) ?_ _
          go_wp2_with fail
          go_ret2
          exact ⟨v7, rfl, by rw [HF.out, HLN.out]; exact HO.out, HD.out, HB.out⟩
        exact AllReadyK.nil
      exact AllReadyK.nil
    refine AllReadyK.cons (i := 6) rfl (fun K hK => ?_) ?_
    · go_simp
      have hal := below_alloc (Below.refl D.heap.size D) (.cells #[.string (B s), .slice Aa x.a.length ca, .slice Aw x.w.length cw, .string (B x.g), .string (B x.x), .string (B x.p), .string (B x.s)] 43)
      have HN := Lib.hid (BoxN.new D (namC ⟨s, .slice Aa x.a.length ca, .slice Aw x.w.length cw, x⟩) 43)
      have HN : Hid (BoxN (D.alloc (.cells #[.string (B s), .slice Aa x.a.length ca, .slice Aw x.w.length cw, .string (B x.g), .string (B x.x), .string (B x.p), .string (B x.s)] 43)) D.heap.size (namC ⟨s, .slice Aa x.a.length ca, .slice Aw x.w.length cw, x⟩)) := HN
      have HX := Lib.hid (HX.out.below hal)
      try have HRV := Lib.hid (HRV.out.below hal)
      have HB := Lib.hid (below_then HB.out hal)
      clear hal
      generalize D.heap.size = n6 at *
      generalize D.alloc (.cells #[.string (B s), .slice Aa x.a.length ca, .slice Aw x.w.length cw, .string (B x.g), .string (B x.x), .string (B x.p), .string (B x.s)] 43) = D at *
      refine hK.out _ _ (fun _ => (box6 HX.out).1) ?_
      clear hK K
      try simp only [Act.put, List.setIfInBounds_toArray, List.set_cons_zero, List.set_cons_succ]
      refine wpAnyK_ready (rs := [2]) (by kernel_rfl) (by simp) ?_
      refine AllReadyK.cons (i := 2) rfl (fun K hK => ?_) ?_
      · go_simp
        refine (HRM.out D HB.out).mono ?_
        rintro e6 w6 ⟨v6, rfl, ho6, hd6, hb6⟩
        obtain ⟨A6, c6, rfl, -⟩ := ho6.form0
        dsimp only
        have HX := Lib.hid (HX.out.below hb6)
        try have HN := Lib.hid (HN.out.below hb6)
        have HRV := Lib.hid (ho6.mono HB.out.size)
        have HRD := Lib.hid (show ∀ k, (Value.slice A6 zs.length c6).ownBlock = some k → w.heap.size ≤ k from fun k hk => by
          rcases hd6 with e | e
          · rw [e] at hk; cases hk
          · have := e k hk; have := HB.out.size; omega)
        have HB := Lib.hid (below_then HB.out hb6)
        clear ho6 hd6 hb6
        obtain ⟨D, rfl⟩ : ∃ D, D = w6 := ⟨_, rfl⟩
        refine hK.out _ _ (fun _ => (box6 HX.out).1) ?_
        clear hK K
        try simp only [Act.put, List.setIfInBounds_toArray, List.set_cons_zero, List.set_cons_succ]
        refine wpAnyK_ready (rs := [7]) (by kernel_rfl) (by simp) ?_
        refine AllReadyK.cons (i := 7) rfl (fun K hK => ?_) ?_
        · have hzz := HB.out.size
          (refine step_append_src _ rfl (.tmp 34) (.tmp 38) _ rfl w.heap.size 43 i0 _ 7 128 Tryz.underlying41 hi0 hz00 hz01 hz02 rfl (by decide) _ zs.length (zs.flatMap namC) rfl HRV.out _ 1 (namC ⟨s, .slice Aa x.a.length ca, .slice Aw x.w.length cw, x⟩) rfl rfl HN.out.src HY1.out (by unfold maxLen; omega) (by omega) (by first | (simp; done) | omega | (simp; omega)) ?_; intro v7 w7 hown7 hg7 hat7 hty7; have HTY7 := Lib.hid hty7; clear hty7)
          have HB := Lib.hid (below_keeps HB.out hg7 (fun k f => f.2))
          have HO := Lib.hid hown7
          have HD := Lib.hid (show ∀ k, v7.ownBlock = some k → w.heap.size ≤ k from fun k hk => by
            rcases hat7 with e | e
            · rw [e] at hk; exact HRD.out k hk
            · have := e k hk; omega)
          clear hown7 hg7 hat7 HTY7 hzz
          obtain ⟨D, rfl⟩ : ∃ D, D = w7 := ⟨_, rfl⟩
          refine hK.out _ _ (fun h => Bool.noConfusion ((show unl _ _ = false by kernel_rfl).symm.trans h)) ?_
          clear hK K
          try simp only [Act.put, List.setIfInBounds_toArray, List.set_cons_zero, List.set_cons_succ]
          refine wpAnyK_take2 (i := 8) (some 6) (v := ?v8_8z27) rfl rfl (by kernel_rfl) (by kernel_rfl) (by kernel_rfl) (by kernel_rfl) (fun _ _ _ h => h) (Or.inl ⟨by rfl, ?y8_8z27⟩) (fun h => Bool.noConfusion ((show unl _ _ = false by kernel_rfl).symm.trans h)) ?r8_8z27
          case y8_8z27 =>
            intro w hSw
            go_simp
            try with_reducible rfl
          try simp only [Act.put, List.setIfInBounds_toArray, List.set_cons_zero, List.set_cons_succ]
          refine wpAnyK_take2 (i := 9) (some 7) (v := ?v9_9z27) rfl rfl (by kernel_rfl) (by kernel_rfl) (by kernel_rfl) (by kernel_rfl) (fun _ _ _ h => h) (Or.inl ⟨by rfl, ?y9_9z27⟩) (fun h => Bool.noConfusion ((show unl _ _ = false by kernel_rfl).symm.trans h)) ?r9_9z27
          case y9_9z27 =>
            intro w hSw
            go_simp
            try with_reducible rfl
          try simp only [Act.put, List.setIfInBounds_toArray, List.set_cons_zero, List.set_cons_succ]
          refine wpAnyK_done (by kernel_rfl) ?_ _
          go_wp2_with fail
          go_ret2
          exact ⟨v7, rfl, by rw [HF.out, HLN.out]; exact HO.out, HD.out, HB.out⟩
        exact AllReadyK.nil
      exact AllReadyK.nil
    exact AllReadyK.nil
end Go.Proofs.YtljinmfkogmmlaaGreat.Spc
/-
  The walk of layer 20's reference registry, on: For. Conditions: at most 2^20 names; texts of at most 2^30. (Printed by gen_rfor20.py.)
-/
namespace Go.Proofs.YtljinmfkogmmlaaGreat.Spc
open Go.ChangeShapes Go.WideShapes Go.Deep Go.RowKit Tab Mc Pa Quo
set_option linter.unusedSimpArgs false
set_option linter.unusedVariables false
set_option maxRecDepth 100000
/-- The spec of a command, by what is told of names: the document's answer. -/
def rforQ (get : List UInt8 → Option Nm) (c : List UInt8) : Option Nm :=
  if c = [] then get [45, 69] else if (get (baseL c)).isSome = true ∧ baseL c ≠ [45, 68] ∧ baseL c ≠ [45, 69] then get (baseL c) else get [45, 68]
set_option maxHeartbeats 8000000 in
theorem rFor_any (us : List Nm) (v : Value) (c : List UInt8) (w : World) (hv : Sl w namC 7 v us) (hx : us.length ≤ 1048576) (hc : c.length ≤ 1073741824) (hsl : ∀ e ∈ us, ∃ A c B d, e.va = .slice A e.x.a.length c ∧ e.vw = .slice B e.x.w.length d) :
    Calls Tryz.prog 24 #[v, .string (B c)] w fun e w' => e = .returned (getR (rforQ (getM us) c)) ∧ Below w.heap.size w w' := by
  have HG := Lib.hid fun s W (hb : Below w.heap.size w W) => rGet20_any us v s W (hv.below hb) hx hsl
  have HFM := Lib.hid fun s g (h : getM us s = some g) => hsl g (List.mem_of_find?_eq_some h)
  have HF := Lib.hid (show rforQ (getM us) c = if c = [] then getM us [45, 69] else if (getM us (baseL c)).isSome = true ∧ baseL c ≠ [45, 68] ∧ baseL c ≠ [45, 69] then getM us (baseL c) else getM us [45, 68] from rfl)
  generalize rforQ (getM us) c = q at *
  obtain ⟨Av, cv, rfl, _⟩ := hv
  clear hsl
  by_cases h0 : c = []
  · rw [if_pos h0] at HF
    subst h0
    have HE := Lib.hid fun W hb => HG.out [45, 69] W hb
    cases hg : getM us [45, 69] with
    | none =>
      rw [hg] at HE HF
      unfold getR at HE
      clear hg
      go_enter Tryz.func24, Tryz.ntmps24
      go_wp2_with (go_at_call 20; (with_reducible refine (HE.out _ (below_alloc (Below.refl w.heap.size w) _)).mono ?_); rintro e3 w3 ⟨rfl, hb3⟩; have HX3 := Lib.hid ((BoxN.new w sp0V 26).below hb3); have HB3 := Lib.hid (below_then (below_alloc (Below.refl w.heap.size w) _) hb3); obtain ⟨⟨r0, r1, r2, r3, r4, r5⟩, f0, f1, f2, f3, f4, f5⟩ := box6 HX3.out; haveI : Old w3 w.heap.size := ⟨HX3.out.lt⟩; clear hb3)
      obtain ⟨hbx, hk⟩ := box_fill6 HX3.out (.slice none 0 0) (.slice none 0 0) (.string (B [])) (.string (B [])) (.string (B [])) (.string (B []))
      obtain ⟨⟨t0, t1, t2, t3, t4, t5⟩, -⟩ := box6 hbx
      refine bodyPost_ret (v := .tuple #[spV (.slice none 0 0) (.slice none 0 0) sp0, .int .i64 0]) (by simp [results, Tryz.results24, go_sem, t0, t1, t2, t3, t4, t5, sp0]) rfl ?_
      rw [HF.out]
      exact ⟨rfl, below_keeps HB3.out hk (fun k e => by omega)⟩
    | some g =>
      rw [hg] at HE HF
      obtain ⟨Ag, cg, Bg, dg, hga, hgw⟩ := HFM.out [45, 69] _ hg
      obtain ⟨gn, ga, gw, gx⟩ := g
      dsimp only at *
      subst hga hgw
      unfold getR at HE
      clear hg
      go_enter Tryz.func24, Tryz.ntmps24
      go_wp2_with (go_at_call 20; (with_reducible refine (HE.out _ (below_alloc (Below.refl w.heap.size w) _)).mono ?_); rintro e3 w3 ⟨rfl, hb3⟩; have HX3 := Lib.hid ((BoxN.new w sp0V 26).below hb3); have HB3 := Lib.hid (below_then (below_alloc (Below.refl w.heap.size w) _) hb3); obtain ⟨⟨r0, r1, r2, r3, r4, r5⟩, f0, f1, f2, f3, f4, f5⟩ := box6 HX3.out; haveI : Old w3 w.heap.size := ⟨HX3.out.lt⟩; clear hb3)
      obtain ⟨hbx, hk⟩ := box_fill6 HX3.out (.slice Ag gx.a.length cg) (.slice Bg gx.w.length dg) (.string (B gx.g)) (.string (B gx.x)) (.string (B gx.p)) (.string (B gx.s))
      obtain ⟨⟨t0, t1, t2, t3, t4, t5⟩, -⟩ := box6 hbx
      refine bodyPost_ret (v := .tuple #[spV (.slice Ag gx.a.length cg) (.slice Bg gx.w.length dg) gx, .int .i64 1]) (by simp [results, Tryz.results24, go_sem, t0, t1, t2, t3, t4, t5, sp0]) rfl ?_
      rw [HF.out]
      exact ⟨rfl, below_keeps HB3.out hk (fun k e => by omega)⟩
  rw [if_neg h0] at HF
  have hne : (c == []) = false := by rw [beq_eq_false_iff_ne]; exact h0
  clear h0
  go_enter Tryz.func24, Tryz.ntmps24
  go_wp2
  have HX := Lib.hid (BoxN.new w sp0V 26)
  have HB := Lib.hid (below_alloc (Below.refl w.heap.size w) (.cells sp0V.toArray 26))
  unfold sp0V at HX HB
  generalize w.alloc _ = W at *
  rw [show ({ data := #[] } : ByteArray) = B (baseL (c.take 0)) from rfl]
  go_loopw [6, 7] (fun t i w' => ∃ k : Nat, k ≤ c.length ∧ i = .int .i64 k ∧ t = .string (B (baseL (c.take k))) ∧ W = w') (fun _ i _ => c.length - (intOf i).toNat)
  case atStart => exact ⟨0, by omega, rfl, rfl, rfl⟩
  case round =>
    obtain ⟨k, hk, rfl, rfl, rfl⟩ := hrel
    by_cases hlt : k < c.length
    · have k0 : (0 : Int) ≤ (k : Int) := by omega
      have k1 : (k : Int) < (c.length : Int) := by omega
      have h1t : (c.take (k + 1)).drop k = [c[k]] := one_at c k hlt
      have hbs := base_snoc c k hlt
      have hbl := base_len (c.take k)
      rw [List.length_take] at hbl
      have HS := Lib.hid hbs
      generalize baseL (c.take k) = u at *
      have hul : ((u.length : Int) + 1) ≤ 9223372036854775807 := by omega
      clear hbs
      by_cases c1 : c[k] = 47
      · have e1 := Pat.is_b (n := 47) rfl c1
        have HS2 := Lib.hid (show baseL (c.take (k + 1)) = [] by rw [HS.out, if_pos c1])
        clear c1
        go_wp2
        go_roundw
        case rel => exact ⟨k + 1, by omega, by go_num, by rw [HS2.out]; rfl, trivial⟩
        case measure => simp [intOf]; omega
      · have e1 := Pat.not_b (n := 47) rfl c1
        have HS2 := Lib.hid (show baseL (c.take (k + 1)) = u ++ [c[k]] by rw [HS.out, if_neg c1])
        clear c1
        go_wp2
        go_roundw
        case rel => exact ⟨k + 1, by omega, by go_num, by rw [HS2.out], trivial⟩
        case measure => simp [intOf]; omega
    · have k2 : k = c.length := by omega
      subst k2
      have k1 : ¬ (c.length : Int) < (c.length : Int) := by omega
      rw [List.take_length]
      generalize baseL c = u at *
      clear hlt hk
      have HE := Lib.hid fun W hb => HG.out u W hb
      have HE2 := Lib.hid fun W hb => HG.out [45, 68] W hb
      cases hg : getM us u with
      | none =>
        rw [hg] at HE HF
        rw [if_neg (by simp)] at HF
        unfold getR at HE
        clear hg
        cases hg : getM us [45, 68] with
        | none =>
          rw [hg] at HE2 HF
          unfold getR at HE2
          clear hg
          go_wp2_with (first
            | (go_at_call 20; (with_reducible refine (HE.out _ (HB.out)).mono ?_); rintro e3 w3 ⟨rfl, hb3⟩; have HX3 := Lib.hid (HX.out.below hb3); have HB3 := Lib.hid (below_then (HB.out) hb3); obtain ⟨⟨r0, r1, r2, r3, r4, r5⟩, f0, f1, f2, f3, f4, f5⟩ := box6 HX3.out; haveI : Old w3 w.heap.size := ⟨HX3.out.lt⟩; clear hb3)
            | (go_at_call 20; (with_reducible refine (HE2.out _ (below_alloc HB3.out _)).mono ?_); rintro e4 w4 ⟨rfl, hb4⟩; have HX4 := Lib.hid ((HX3.out.below (below_alloc (Below.refl _ _) _)).below hb4); have HB4 := Lib.hid (below_then (below_alloc HB3.out _) hb4); clear r0 r1 r2 r3 r4 r5 f0 f1 f2 f3 f4 f5; obtain ⟨⟨r0, r1, r2, r3, r4, r5⟩, f0, f1, f2, f3, f4, f5⟩ := box6 HX4.out; haveI : Old w4 w.heap.size := ⟨HX4.out.lt⟩; clear hb4))
          obtain ⟨hbx, hk⟩ := box_fill6 HX4.out (.slice none 0 0) (.slice none 0 0) (.string (B [])) (.string (B [])) (.string (B [])) (.string (B []))
          obtain ⟨⟨t0, t1, t2, t3, t4, t5⟩, -⟩ := box6 hbx
          refine bodyPost_ret (v := .tuple #[spV (.slice none 0 0) (.slice none 0 0) sp0, .int .i64 0]) (by simp [results, Tryz.results24, go_sem, t0, t1, t2, t3, t4, t5, sp0]) rfl ?_
          rw [HF.out]
          exact ⟨rfl, below_keeps HB4.out hk (fun k e => by omega)⟩
        | some h =>
          rw [hg] at HE2 HF
          obtain ⟨Ah, ch, Bh, dh, hha, hhw⟩ := HFM.out [45, 68] _ hg
          obtain ⟨hn, ha, hw, hx⟩ := h
          dsimp only at *
          subst hha hhw
          unfold getR at HE2
          clear hg
          go_wp2_with (first
            | (go_at_call 20; (with_reducible refine (HE.out _ (HB.out)).mono ?_); rintro e3 w3 ⟨rfl, hb3⟩; have HX3 := Lib.hid (HX.out.below hb3); have HB3 := Lib.hid (below_then (HB.out) hb3); obtain ⟨⟨r0, r1, r2, r3, r4, r5⟩, f0, f1, f2, f3, f4, f5⟩ := box6 HX3.out; haveI : Old w3 w.heap.size := ⟨HX3.out.lt⟩; clear hb3)
            | (go_at_call 20; (with_reducible refine (HE2.out _ (below_alloc HB3.out _)).mono ?_); rintro e4 w4 ⟨rfl, hb4⟩; have HX4 := Lib.hid ((HX3.out.below (below_alloc (Below.refl _ _) _)).below hb4); have HB4 := Lib.hid (below_then (below_alloc HB3.out _) hb4); clear r0 r1 r2 r3 r4 r5 f0 f1 f2 f3 f4 f5; obtain ⟨⟨r0, r1, r2, r3, r4, r5⟩, f0, f1, f2, f3, f4, f5⟩ := box6 HX4.out; haveI : Old w4 w.heap.size := ⟨HX4.out.lt⟩; clear hb4))
          obtain ⟨hbx, hk⟩ := box_fill6 HX4.out (.slice Ah hx.a.length ch) (.slice Bh hx.w.length dh) (.string (B hx.g)) (.string (B hx.x)) (.string (B hx.p)) (.string (B hx.s))
          obtain ⟨⟨t0, t1, t2, t3, t4, t5⟩, -⟩ := box6 hbx
          refine bodyPost_ret (v := .tuple #[spV (.slice Ah hx.a.length ch) (.slice Bh hx.w.length dh) hx, .int .i64 1]) (by simp [results, Tryz.results24, go_sem, t0, t1, t2, t3, t4, t5, sp0]) rfl ?_
          rw [HF.out]
          exact ⟨rfl, below_keeps HB4.out hk (fun k e => by omega)⟩
      | some g =>
        rw [hg] at HE HF
        obtain ⟨Ag, cg, Bg, dg, hga, hgw⟩ := HFM.out u _ hg
        obtain ⟨gn, ga, gw, gx⟩ := g
        dsimp only at *
        subst hga hgw
        unfold getR at HE
        clear hg
        by_cases hd : u = [45, 68]
        · rw [if_neg (by rw [hd]; simp)] at HF
          have m1 : (u == [45, 68]) = true := by rw [hd]; rfl
          clear hd
          cases hg : getM us [45, 68] with
          | none =>
            rw [hg] at HE2 HF
            unfold getR at HE2
            clear hg
            go_wp2_with (first
              | (go_at_call 20; (with_reducible refine (HE.out _ (HB.out)).mono ?_); rintro e3 w3 ⟨rfl, hb3⟩; have HX3 := Lib.hid (HX.out.below hb3); have HB3 := Lib.hid (below_then (HB.out) hb3); obtain ⟨⟨r0, r1, r2, r3, r4, r5⟩, f0, f1, f2, f3, f4, f5⟩ := box6 HX3.out; haveI : Old w3 w.heap.size := ⟨HX3.out.lt⟩; clear hb3)
              | (go_at_call 20; (with_reducible refine (HE2.out _ (below_alloc HB3.out _)).mono ?_); rintro e4 w4 ⟨rfl, hb4⟩; have HX4 := Lib.hid ((HX3.out.below (below_alloc (Below.refl _ _) _)).below hb4); have HB4 := Lib.hid (below_then (below_alloc HB3.out _) hb4); clear r0 r1 r2 r3 r4 r5 f0 f1 f2 f3 f4 f5; obtain ⟨⟨r0, r1, r2, r3, r4, r5⟩, f0, f1, f2, f3, f4, f5⟩ := box6 HX4.out; haveI : Old w4 w.heap.size := ⟨HX4.out.lt⟩; clear hb4))
            obtain ⟨hbx, hk⟩ := box_fill6 HX4.out (.slice none 0 0) (.slice none 0 0) (.string (B [])) (.string (B [])) (.string (B [])) (.string (B []))
            obtain ⟨⟨t0, t1, t2, t3, t4, t5⟩, -⟩ := box6 hbx
            refine bodyPost_ret (v := .tuple #[spV (.slice none 0 0) (.slice none 0 0) sp0, .int .i64 0]) (by simp [results, Tryz.results24, go_sem, t0, t1, t2, t3, t4, t5, sp0]) rfl ?_
            rw [HF.out]
            exact ⟨rfl, below_keeps HB4.out hk (fun k e => by omega)⟩
          | some h =>
            rw [hg] at HE2 HF
            obtain ⟨Ah, ch, Bh, dh, hha, hhw⟩ := HFM.out [45, 68] _ hg
            obtain ⟨hn, ha, hw, hx⟩ := h
            dsimp only at *
            subst hha hhw
            unfold getR at HE2
            clear hg
            go_wp2_with (first
              | (go_at_call 20; (with_reducible refine (HE.out _ (HB.out)).mono ?_); rintro e3 w3 ⟨rfl, hb3⟩; have HX3 := Lib.hid (HX.out.below hb3); have HB3 := Lib.hid (below_then (HB.out) hb3); obtain ⟨⟨r0, r1, r2, r3, r4, r5⟩, f0, f1, f2, f3, f4, f5⟩ := box6 HX3.out; haveI : Old w3 w.heap.size := ⟨HX3.out.lt⟩; clear hb3)
              | (go_at_call 20; (with_reducible refine (HE2.out _ (below_alloc HB3.out _)).mono ?_); rintro e4 w4 ⟨rfl, hb4⟩; have HX4 := Lib.hid ((HX3.out.below (below_alloc (Below.refl _ _) _)).below hb4); have HB4 := Lib.hid (below_then (below_alloc HB3.out _) hb4); clear r0 r1 r2 r3 r4 r5 f0 f1 f2 f3 f4 f5; obtain ⟨⟨r0, r1, r2, r3, r4, r5⟩, f0, f1, f2, f3, f4, f5⟩ := box6 HX4.out; haveI : Old w4 w.heap.size := ⟨HX4.out.lt⟩; clear hb4))
            obtain ⟨hbx, hk⟩ := box_fill6 HX4.out (.slice Ah hx.a.length ch) (.slice Bh hx.w.length dh) (.string (B hx.g)) (.string (B hx.x)) (.string (B hx.p)) (.string (B hx.s))
            obtain ⟨⟨t0, t1, t2, t3, t4, t5⟩, -⟩ := box6 hbx
            refine bodyPost_ret (v := .tuple #[spV (.slice Ah hx.a.length ch) (.slice Bh hx.w.length dh) hx, .int .i64 1]) (by simp [results, Tryz.results24, go_sem, t0, t1, t2, t3, t4, t5, sp0]) rfl ?_
            rw [HF.out]
            exact ⟨rfl, below_keeps HB4.out hk (fun k e => by omega)⟩
        by_cases he : u = [45, 69]
        · rw [if_neg (by rw [he]; simp)] at HF
          have m1 : (u == [45, 68]) = false := by rw [he]; rfl
          have m2 : (u == [45, 69]) = true := by rw [he]; rfl
          clear hd he
          cases hg : getM us [45, 68] with
          | none =>
            rw [hg] at HE2 HF
            unfold getR at HE2
            clear hg
            go_wp2_with (first
              | (go_at_call 20; (with_reducible refine (HE.out _ (HB.out)).mono ?_); rintro e3 w3 ⟨rfl, hb3⟩; have HX3 := Lib.hid (HX.out.below hb3); have HB3 := Lib.hid (below_then (HB.out) hb3); obtain ⟨⟨r0, r1, r2, r3, r4, r5⟩, f0, f1, f2, f3, f4, f5⟩ := box6 HX3.out; haveI : Old w3 w.heap.size := ⟨HX3.out.lt⟩; clear hb3)
              | (go_at_call 20; (with_reducible refine (HE2.out _ (below_alloc HB3.out _)).mono ?_); rintro e4 w4 ⟨rfl, hb4⟩; have HX4 := Lib.hid ((HX3.out.below (below_alloc (Below.refl _ _) _)).below hb4); have HB4 := Lib.hid (below_then (below_alloc HB3.out _) hb4); clear r0 r1 r2 r3 r4 r5 f0 f1 f2 f3 f4 f5; obtain ⟨⟨r0, r1, r2, r3, r4, r5⟩, f0, f1, f2, f3, f4, f5⟩ := box6 HX4.out; haveI : Old w4 w.heap.size := ⟨HX4.out.lt⟩; clear hb4))
            obtain ⟨hbx, hk⟩ := box_fill6 HX4.out (.slice none 0 0) (.slice none 0 0) (.string (B [])) (.string (B [])) (.string (B [])) (.string (B []))
            obtain ⟨⟨t0, t1, t2, t3, t4, t5⟩, -⟩ := box6 hbx
            refine bodyPost_ret (v := .tuple #[spV (.slice none 0 0) (.slice none 0 0) sp0, .int .i64 0]) (by simp [results, Tryz.results24, go_sem, t0, t1, t2, t3, t4, t5, sp0]) rfl ?_
            rw [HF.out]
            exact ⟨rfl, below_keeps HB4.out hk (fun k e => by omega)⟩
          | some h =>
            rw [hg] at HE2 HF
            obtain ⟨Ah, ch, Bh, dh, hha, hhw⟩ := HFM.out [45, 68] _ hg
            obtain ⟨hn, ha, hw, hx⟩ := h
            dsimp only at *
            subst hha hhw
            unfold getR at HE2
            clear hg
            go_wp2_with (first
              | (go_at_call 20; (with_reducible refine (HE.out _ (HB.out)).mono ?_); rintro e3 w3 ⟨rfl, hb3⟩; have HX3 := Lib.hid (HX.out.below hb3); have HB3 := Lib.hid (below_then (HB.out) hb3); obtain ⟨⟨r0, r1, r2, r3, r4, r5⟩, f0, f1, f2, f3, f4, f5⟩ := box6 HX3.out; haveI : Old w3 w.heap.size := ⟨HX3.out.lt⟩; clear hb3)
              | (go_at_call 20; (with_reducible refine (HE2.out _ (below_alloc HB3.out _)).mono ?_); rintro e4 w4 ⟨rfl, hb4⟩; have HX4 := Lib.hid ((HX3.out.below (below_alloc (Below.refl _ _) _)).below hb4); have HB4 := Lib.hid (below_then (below_alloc HB3.out _) hb4); clear r0 r1 r2 r3 r4 r5 f0 f1 f2 f3 f4 f5; obtain ⟨⟨r0, r1, r2, r3, r4, r5⟩, f0, f1, f2, f3, f4, f5⟩ := box6 HX4.out; haveI : Old w4 w.heap.size := ⟨HX4.out.lt⟩; clear hb4))
            obtain ⟨hbx, hk⟩ := box_fill6 HX4.out (.slice Ah hx.a.length ch) (.slice Bh hx.w.length dh) (.string (B hx.g)) (.string (B hx.x)) (.string (B hx.p)) (.string (B hx.s))
            obtain ⟨⟨t0, t1, t2, t3, t4, t5⟩, -⟩ := box6 hbx
            refine bodyPost_ret (v := .tuple #[spV (.slice Ah hx.a.length ch) (.slice Bh hx.w.length dh) hx, .int .i64 1]) (by simp [results, Tryz.results24, go_sem, t0, t1, t2, t3, t4, t5, sp0]) rfl ?_
            rw [HF.out]
            exact ⟨rfl, below_keeps HB4.out hk (fun k e => by omega)⟩
        rw [if_pos ⟨rfl, hd, he⟩] at HF
        have m1 : (u == [45, 68]) = false := by rw [beq_eq_false_iff_ne]; exact hd
        have m2 : (u == [45, 69]) = false := by rw [beq_eq_false_iff_ne]; exact he
        clear hd he
        go_wp2_with (go_at_call 20; (with_reducible refine (HE.out _ (HB.out)).mono ?_); rintro e3 w3 ⟨rfl, hb3⟩; have HX3 := Lib.hid (HX.out.below hb3); have HB3 := Lib.hid (below_then (HB.out) hb3); obtain ⟨⟨r0, r1, r2, r3, r4, r5⟩, f0, f1, f2, f3, f4, f5⟩ := box6 HX3.out; haveI : Old w3 w.heap.size := ⟨HX3.out.lt⟩; clear hb3)
        obtain ⟨hbx, hk⟩ := box_fill6 HX3.out (.slice Ag gx.a.length cg) (.slice Bg gx.w.length dg) (.string (B gx.g)) (.string (B gx.x)) (.string (B gx.p)) (.string (B gx.s))
        have hal := fun W => below_alloc (Below.refl W.heap.size W) (.cells #[.slice Ag gx.a.length cg, .slice Bg gx.w.length dg, .string (B gx.g), .string (B gx.x), .string (B gx.p), .string (B gx.s)] 26)
        obtain ⟨⟨t0, t1, t2, t3, t4, t5⟩, -⟩ := box6 (hbx.below (hal _))
        refine bodyPost_ret (v := .tuple #[spV (.slice Ag gx.a.length cg) (.slice Bg gx.w.length dg) gx, .int .i64 1]) (by simp [results, Tryz.results24, go_sem, t0, t1, t2, t3, t4, t5, sp0]) rfl ?_
        rw [HF.out]
        exact ⟨rfl, below_then (below_keeps HB3.out hk (fun k e => by omega)) (hal _)⟩
end Go.Proofs.YtljinmfkogmmlaaGreat.Spc
