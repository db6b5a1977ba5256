/-
  The walk of slices.Insert of a number: at any place, room or not. Conditions: rows of at most 2^20 numbers.
-/
import Derived.Test.YtadaeecokkokjaaGreatNums
import Derived.Test.YtadaeecokkokjaaGreatRunA
import Derived.Test.YtadaeecokkokjaaGreatBox
import Derived.Lib.Overlaps
import Derived.Deep.RegionLaw
set_option linter.unusedSimpArgs false
set_option linter.unusedVariables false
namespace Go.Proofs.YtadaeecokkokjaaGreat.InsI
open Go.ChangeShapes Go.WideShapes Go.Deep Go.RowKit
set_option maxRecDepth 100000
theorem en_flat (xs : List Int) : (xs.flatMap numC).length = xs.length * 1 := by
  induction xs with
  | nil => rfl
  | cons y ys ih => rw [List.flatMap_cons, List.length_append, ih, show (numC y).length = 1 from rfl, List.length_cons]; omega
/-- What slices.Insert leaves. -/
def InsP (b0 : Nat) (lv : Value) (ys : List Int) (w : World) (e : Ending) (w' : World) : Prop :=
  ∃ v', e = .returned v' ∧ Own w' b0 1 v' ys.length (ys.flatMap numC) ∧ Keeps (fun k => lv.ownBlock = some k ∧ b0 ≤ k) w w' ∧ (v'.ownBlock = lv.ownBlock ∨ ∀ k, v'.ownBlock = some k → w.heap.size ≤ k)
set_option maxHeartbeats 1600000 in
theorem insert_end (w : World) (b0 vb : Nat) (lv : Value) (xs : List Int) (y : Int) (hone : ∀ u ∈ numC y, u.oneCell' = true) (ho : Own w b0 1 lv xs.length (xs.flatMap numC)) (hs : Src w (.slice (some ⟨vb, 0, none⟩) 1 1) 1 (numC y)) (hx : xs.length ≤ 1048576) (hb : b0 ≤ w.heap.size) :
    Calls Tryz.prog 43 #[lv, .int .i64 xs.length, .slice (some ⟨vb, 0, none⟩) 1 1] w (InsP b0 lv (xs ++ [y]) w) := by
  obtain ⟨i0, hi0, hz00, hz01, hz02⟩ := info_parts info_num
  have hcap := own_cap ho
  have HO := Lib.hid ho
  obtain ⟨A, c, rfl, hA⟩ := ho.form0
  have hc := hcap A _ c rfl
  have HS := Lib.hid hs
  have HON := Lib.hid hone
  clear hcap ho hs hone
  cases A with
  | none =>
    have h0 : xs.length = 0 := by
      rcases Nat.eq_zero_or_pos xs.length with h | h
      · exact h
      · obtain ⟨g, off, e⟩ := hA h; cases e
    have : xs = [] := List.eq_nil_of_length_eq_zero h0
    subst this
    clear hA h0
    go_enter Tryz.func43, Tryz.ntmps43
    go_wp2_with ((at_builtin; refine wpList_append_src _ rfl (.tmp 23) (.tmp 24) _ rfl b0 3 i0 _ 1 8 Tryz.underlying23 hi0 hz00 hz01 hz02 rfl (by decide) _ 0 [] rfl (show Own w b0 1 (.slice none 0 c) 0 [] from HO.out) _ 1 (numC y) rfl rfl HS.out HON.out (by unfold maxLen; omega) (by omega) (by first | (simp; done) | omega | (simp; omega)) ?_; intro v1 w1 hown1 hg1 hat1 hty1; have HTY1 := Lib.hid hty1; clear hty1))
    go_ret
    exact ⟨v1, rfl, by simpa [List.flatMap_append] using hown1, hg1, hat1⟩
  | some a =>
    clear hA
    go_enter Tryz.func43, Tryz.ntmps43
    go_wp2_with ((at_builtin; refine wpList_append_src _ rfl (.tmp 23) (.tmp 24) _ rfl b0 3 i0 _ 1 8 Tryz.underlying23 hi0 hz00 hz01 hz02 rfl (by decide) _ xs.length (xs.flatMap numC) rfl HO.out _ 1 (numC y) rfl rfl HS.out HON.out (by unfold maxLen; omega) (by omega) (by first | (simp; done) | omega | (simp; omega)) ?_; intro v1 w1 hown1 hg1 hat1 hty1; have HTY1 := Lib.hid hty1; clear hty1))
    all_goals
      go_ret
      exact ⟨v1, rfl, by simpa [List.flatMap_append] using hown1, hg1, hat1⟩
/-- 'copy(d, s)', where its run is known. -/
theorem wp_copy_r {P : Program} (w : World) {o : Oper} {a : Act} {K : Act → World → Prop} {Q : Exit → Act → World → Prop} (d s : Operand) (t t' : TypeId)
    (ho : o.op = .call { callee := .builtin .copy, args := #[d, s], argTypes := #[t, t'] }) (v u : Value) (hd : a.eval d = v) (hs : a.eval s = u) {v' : Value} {w' : World}
    (hr : (Builtin.copy_ #[t, t'] o.type #[v, u]).run P w = .ok v' w') (h : K (a.put o.dst v') w') : o.wp P a w K Q := by
  unfold Oper.wp execOp
  simp only [ho, resolve, invoke, builtin, Sem.run_bind, Sem.run_pure, Result.andThen_ok, List.map_toArray, List.map_cons, List.map_nil, hd, hs, hr]
  exact h
theorem wpList_copy_r {P : Program} (w : World) {ops : Array Oper} {rest : List Oper} {o : Oper} {a : Act} {Q : Exit → Act → World → Prop} (hgd : o.guard = none) (d s : Operand) (t t' : TypeId)
    (ho : o.op = .call { callee := .builtin .copy, args := #[d, s], argTypes := #[t, t'] }) (v u : Value) (hd : a.eval d = v) (hs : a.eval s = u) {v' : Value} {w' : World}
    (hr : (Builtin.copy_ #[t, t'] o.type #[v, u]).run P w = .ok v' w') (h : wpList P ops Q rest (a.put o.dst v') w') : wpList P ops Q (o :: rest) a w :=
  wpList_plain hgd fun _ hK => wp_copy_r w d s t t' ho v u hd hs hr (hK _ _ h)
theorem step_copy_r {P : Program} {ops : Array Oper} {o : Oper} {a : Act} {w : World} {K : Act → World → Prop} {Q : Exit → Act → World → Prop} {E : Prop}
    (hg : o.guard = none) (d x : Operand) (dT sT : TypeId) (hop : o.op = Op.call { callee := Callee.builtin Builtin.copy, args := #[d, x], argTypes := #[dT, sT] })
    (v u : Value) (hd : a.eval d = v) (hx : a.eval x = u) {v' : Value} {w' : World} (hr : (Builtin.copy_ #[dT, sT] o.type #[v, u]).run P w = .ok v' w') (hK : K (a.put o.dst v') w') :
    if Region.wanted o (yielded ops a.tmps) = true then Oper.wp P o a w K Q else E := by
  rw [if_pos (by simp [Region.wanted, hg])]
  exact wp_copy_r w d x dT sT hop v u hd hx hr hK
theorem overlaps_no (w : World) (g o vb n c lb cb : Nat) (y : Int) (hne : vb ≠ g) (hv : w.heap[vb]? = some (.cells (numC y).toArray 3)) (hg : ∃ u, w.cell? ⟨g, o, none⟩ = some u) :
    (callFunc 72 #[.slice (some ⟨vb, 0, none⟩) n c, .slice (some ⟨g, o, none⟩) lb cb]).run Tryz.prog w = .ok (.value (.bool false)) w := by
  obtain ⟨i0, hi0, hz00, hz01, hz02⟩ := info_parts info_num
  have hsz : ∀ w, (Go.sizeOf 3).run Tryz.prog w = .ok 1 w := fun w => by simp [sizeOf, typeInfo, hi0, hz01]
  have hsa : w.shape? vb = some (3, 1) := by simp [World.shape?, hv, show (numC y).length = 1 from rfl]
  obtain ⟨u, hu⟩ := hg
  obtain ⟨tB, kB, hsb, hkB⟩ : ∃ tB kB, w.shape? g = some (tB, kB) ∧ kB ≠ 0 := by
    unfold World.cell? at hu
    split at hu
    · rename_i cc el r hq
      refine ⟨el, cc.size, by simp only [World.shape?]; rw [hq], fun h0 => ?_⟩
      rw [if_neg (by simp), Array.getElem?_eq_none (by omega)] at hu
      cases hu
    · cases hu
  rw [run_callFunc_extern (fn := Tryz.f72) Tryz.func72 (by kernel_rfl) (by kernel_rfl) (by kernel_rfl) (e := Extern.SlicesOverlaps.overlaps #[23, 23] #[4]) (by kernel_rfl),
    Lib.run_overlaps_apart w 23 4 3 Tryz.underlying23 1 hsz ⟨vb, 0, none⟩ ⟨g, o, none⟩ n c lb cb hne _ _ _ _ hsa hsb hkB (by simp [World.frozen?, hv]) (by simp [World.frozen?, hv])]
  rfl
theorem en_take (xs : List Int) (i : Nat) : (xs.take i).flatMap numC = (xs.flatMap numC).take (i * 1) := by
  induction xs generalizing i with
  | nil => simp
  | cons y ys ih =>
    cases i with
    | zero => simp
    | succ i => rw [List.take_succ_cons, List.flatMap_cons, ih, List.flatMap_cons, show (i + 1) * 1 = (numC y).length + i * 1 by rw [show (numC y).length = 1 from rfl]; omega, List.take_length_add_append]
theorem en_drop (xs : List Int) (i : Nat) : (xs.drop i).flatMap numC = (xs.flatMap numC).drop (i * 1) := by
  induction xs generalizing i with
  | nil => simp
  | cons y ys ih =>
    cases i with
    | zero => simp
    | succ i => rw [List.drop_succ_cons, ih, List.flatMap_cons, show (i + 1) * 1 = (numC y).length + i * 1 by rw [show (numC y).length = 1 from rfl]; omega, List.drop_length_add_append]
theorem setCells_some (b : Nat) (vs : List Value) (o : Nat) (w : World) (h : ∀ j, j < vs.length → (w.cell? ⟨b, o + j, none⟩).isSome = true) (k : Nat) (hk : (w.cell? ⟨b, k, none⟩).isSome = true) : ((w.setCells b o vs).cell? ⟨b, k, none⟩).isSome = true := by
  by_cases hin : o ≤ k ∧ k < o + vs.length
  · have := World.cell?_setCells_in b vs o w h (k - o) (by omega)
    rw [show o + (k - o) = k by omega] at this
    rw [this]; rfl
  · rw [World.cell?_setCells_out b vs o w ⟨b, k, none⟩ (fun _ _ => by show k < o ∨ o + vs.length ≤ k; omega)]
    exact hk
theorem en_at {w : World} {vb : Nat} {cs : List Value} {t : TypeId} (hv : w.heap[vb]? = some (.cells cs.toArray t)) (j : Nat) (v : Value) (hj : cs[j]? = some v) : w.cell? ⟨vb, j, none⟩ = some v := by
  simp only [World.cell?, hv]
  simpa using hj
set_option maxHeartbeats 1600000 in
theorem insert_mid (w : World) (b0 vb g off c i : Nat) (xs : List Int) (y : Int) (hone : ∀ x, ∀ u ∈ numC x, u.oneCell' = true) (ho : Own w b0 1 (.slice (some ⟨g, off, none⟩) xs.length c) xs.length (xs.flatMap numC)) (hv : w.heap[vb]? = some (.cells (numC y).toArray 3)) (hne : vb ≠ g) (hx : xs.length ≤ 1048576) (hi : i < xs.length) (hroom : xs.length + 1 ≤ c) :
    Calls Tryz.prog 43 #[.slice (some ⟨g, off, none⟩) xs.length c, .int .i64 i, .slice (some ⟨vb, 0, none⟩) 1 1] w (InsP b0 (.slice (some ⟨g, off, none⟩) xs.length c) (xs.take i ++ y :: xs.drop i) w) := by
  obtain ⟨i0, hi0, hz00, hz01, hz02⟩ := info_parts info_num
  obtain ⟨g', off', c', e, g1, g2, g3, g4, g5, g6⟩ : ∃ g' off' c', Value.slice (some ⟨g, off, none⟩) xs.length c = .slice (some ⟨g', off', none⟩) xs.length c' ∧ b0 ≤ g' ∧ g' < w.heap.size ∧ xs.length ≤ c' ∧ c' ≤ maxLen ∧
      (∀ j, j < c' * 1 → (w.cell? ⟨g', off' + j, none⟩).isSome = true ∧ w.frozen? ⟨g', off' + j, none⟩ = false) ∧ ∀ j u, (xs.flatMap numC)[j]? = some u → w.cell? ⟨g', off' + j, none⟩ = some u := by
    rcases ho.2 with ⟨h0, _⟩ | h
    · omega
    · exact h
  injection e with e5 _ e6
  injection e5 with e5
  injection e5 with e5 e7
  subst e5 e6 e7
  have hsh := own_shift (i := i) (ho.below (below_drew (Below.refl _ _))) (by decide) (by omega) hroom (show (numC y).length = 1 from rfl)
  simp only [Nat.mul_one] at hsh
  have hsh := Lib.hid hsh
  have hov := fun o lb cb (h : ∃ u, w.cell? ⟨g, o, none⟩ = some u) => overlaps_no w g o vb 1 1 lb cb y hne hv h
  have hc63 : c ≤ 9223372036854775807 := by unfold maxLen at g4; omega
  have hiw : IntKind.i64.wrap ((i : Int) + 1) = (i : Int) + 1 := IntWalk.i64_in _ (by omega)
  have hi1 : (i : Int) ≤ (xs.length : Int) := by omega
  have hi2 : ((i : Int) == (xs.length : Int)) = false := by rw [beq_eq_false_iff_ne]; omega
  have hb1 : (0 : Int) ≤ (i : Int) + 1 := by omega
  have hb2 : ¬ (c = i + 1) := by omega
  have hb3 : (i : Int) + 1 ≤ (xs.length : Int) + 1 := by omega
  have hb4 : ¬ (c = i) := by omega
  have hb7 : (i : Int) ≤ (xs.length : Int) + 1 := by omega
  have hb8 : (0 : Int) ≤ (i : Int) := by omega
  have hb5 := no (show ¬ (c : Int) < (xs.length : Int) + 1 by omega)
  have hb6 : (xs.length : Int) + 1 ≤ (c : Int) := by omega
  have htn : ((i : Int) + 1).toNat = i + 1 := by omega
  have hflat := en_flat xs
  have hey : (numC y).length = 1 := rfl
  have hdl : ((xs.flatMap numC).drop (i)).length = (xs.length - i) * 1 := by rw [List.length_drop, hflat]; omega
  have hone2 : ∀ v ∈ xs.flatMap numC, v.oneCell' = true := by
    intro v hv
    obtain ⟨x, _, hxv⟩ := List.mem_flatMap.1 hv
    exact hone x v hxv
  have hov0 := hov (off + (i + 1)) (xs.length - i) (c - (i + 1)) (Option.isSome_iff_exists.1 (g5 _ (by omega)).1)
  have hcp1 : ∀ ty dc sc, (Builtin.copy_ #[23, 23] ty #[.slice (some ⟨g, off + (i + 1), none⟩) (xs.length - i) dc, .slice (some ⟨g, off + i, none⟩) (xs.length + 1 - i) sc]).run Tryz.prog w.drew = .ok (goInt ((xs.length - i : Nat) : Int)) (w.drew.setCells g (off + (i + 1)) ((xs.flatMap numC).drop (i))) := fun ty dc sc =>
    run_copy_sz w.drew _ _ ty 3 1 g (off + (i + 1)) (xs.length - i) dc ⟨g, off + i, none⟩ (xs.length + 1 - i) sc (xs.length - i) ((xs.flatMap numC).drop (i)) Tryz.underlying23 (by rw [hi0]; simp [hz01]) (by simp only [Nat.min_def]; split <;> omega) hdl
      (fun j v hj => by rw [Addr.add_lit, Nat.add_assoc]; exact g6 _ v (by rwa [List.getElem?_drop] at hj))
      (fun j hj => by rw [Nat.add_assoc]; exact (g5 _ (by omega)).1) (fun j hj => by rw [Nat.add_assoc]; exact (g5 _ (by omega)).2) (fun v hv => hone2 v (List.mem_of_mem_drop hv))
  obtain ⟨W1, hW1⟩ : ∃ W1, W1 = w.drew.setCells g (off + (i + 1)) ((xs.flatMap numC).drop (i)) := ⟨_, rfl⟩
  have hK1 : Keeps (fun k => k = g) w W1 := by rw [hW1]; exact (Keeps.of_below (below_drew (Below.refl _ _))).trans (keeps_setCells (F := fun k => k = g) rfl _ _ _)
  have hvb := (Array.getElem?_eq_some_iff.1 hv).1
  have hv1 : W1.heap[vb]? = some (.cells (numC y).toArray 3) := (hK1.block vb hvb hne).trans hv
  have hs1 : ∀ j, j < c * 1 → (W1.cell? ⟨g, off + j, none⟩).isSome = true := fun j hj => by
    rw [hW1]
    exact setCells_some g _ _ _ (fun k hk => by rw [Nat.add_assoc]; exact (g5 _ (by omega)).1) _ (g5 j hj).1
  have hcp2 : ∀ ty dc, (Builtin.copy_ #[23, 23] ty #[.slice (some ⟨g, off + i, none⟩) (xs.length + 1 - i) dc, .slice (some ⟨vb, 0, none⟩) 1 1]).run Tryz.prog W1 = .ok (goInt ((1 : Nat) : Int)) (W1.setCells g (off + i) (numC y)) := fun ty dc =>
    run_copy_sz W1 _ _ ty 3 1 g (off + i) (xs.length + 1 - i) dc ⟨vb, 0, none⟩ 1 1 1 (numC y) Tryz.underlying23 (by rw [hi0]; simp [hz01]) (by simp only [Nat.min_def]; split <;> omega) rfl
      (fun j v hj => by rw [Addr.add_lit, Nat.zero_add]; exact en_at hv1 j v hj)
      (fun j hj => by rw [Nat.add_assoc]; exact hs1 _ (by omega)) (fun j hj => by rw [hW1, World.frozen?_setCells, Nat.add_assoc]; exact (g5 _ (by omega)).2) (fun v hv => hone y v hv)
  rw [← hW1] at hcp1 hsh
  have HK1 := Lib.hid hK1
  have HF := Lib.hid (show ((xs.take i ++ y :: xs.drop i).flatMap numC) = (xs.flatMap numC).take (i) ++ (numC y ++ (xs.flatMap numC).drop (i)) by
    rw [List.flatMap_append, List.flatMap_cons, en_take, en_drop]; simp only [Nat.mul_one])
  have HLN := Lib.hid (show (xs.take i ++ y :: xs.drop i).length = xs.length + 1 by simp; omega)
  clear hov hflat hK1 hv1 hs1 hvb hW1 hdl hone hone2 g5 g6 hey
  go_enter Tryz.func43, Tryz.ntmps43
  go_wp2_with (simp only [hov0])
  clear hov0
  go_region_law (refine step_copy_r rfl (.tmp 73) (.tmp 76) 23 23 rfl _ _ (by simp [Act.eval, Act.put]) (by simp [Act.eval, Act.put]) (hcp1 _ _ _) ?_)
  go_wp2_with (at_builtin; refine wpList_copy_r _ rfl (.tmp 80) (.tmp 81) 23 23 rfl _ _ rfl rfl (hcp2 _ _) ?_)
  go_ret
  refine ⟨_, rfl, by rw [HF.out, HLN.out]; exact hsh.out, ?_, .inl rfl⟩
  exact (HK1.out.mono fun k _ e => ⟨by rw [e]; rfl, by omega⟩).trans (keeps_setCells ⟨rfl, by omega⟩ _ _ _)
set_option maxHeartbeats 1600000 in
theorem insert_grow (w : World) (b0 vb g off c i : Nat) (xs : List Int) (y : Int) (hone : ∀ x, ∀ u ∈ numC x, u.oneCell' = true) (ho : Own w b0 1 (.slice (some ⟨g, off, none⟩) xs.length c) xs.length (xs.flatMap numC)) (hv : w.heap[vb]? = some (.cells (numC y).toArray 3)) (hx : xs.length ≤ 1048576) (hi : i < xs.length) (hroom : c < xs.length + 1) :
    Calls Tryz.prog 43 #[.slice (some ⟨g, off, none⟩) xs.length c, .int .i64 i, .slice (some ⟨vb, 0, none⟩) 1 1] w (InsP b0 (.slice (some ⟨g, off, none⟩) xs.length c) (xs.take i ++ y :: xs.drop i) w) := by
  obtain ⟨i0, hi0, hz00, hz01, hz02⟩ := info_parts info_num
  have hcap := own_cap ho _ _ _ rfl
  have hgw := ho.lt g rfl
  have hbw : b0 ≤ w.heap.size := by
    rcases ho.2 with ⟨h0, _⟩ | ⟨g', off', c', e, g1, g2, _⟩
    · omega
    · omega
  have hg6 : ∀ j u, (xs.flatMap numC)[j]? = some u → w.cell? ⟨g, off + j, none⟩ = some u := by
    rcases ho.2 with ⟨h0, _⟩ | ⟨g', off', c', e, g1, g2, g3, g4, g5, g6⟩
    · omega
    · injection e with e5 _ e6
      injection e5 with e5
      injection e5 with e5 e7
      subst e5 e6 e7
      exact g6
  have hflat := en_flat xs
  have htl : ((xs.flatMap numC).take (i * 1)).length = i * i0.size := by rw [List.length_take, hflat, hz01]; omega
  obtain ⟨G, W1, zs, hrun, hown, hzl, hbel⟩ := own_zeros (P := Tryz.prog) (w := w) (t := 23) (tn := 3) (ty := 23) (kq := .i64) (kn := .i64) (a := ⟨g, off, none⟩) (n := i) (c := c) (k := xs.length + 1 - i) Tryz.underlying23 Tryz.underlying3 hi0 hz00 (by rw [hz01]; rfl) htl
    (fun j v hj => by
      rw [Addr.add_lit]
      rw [List.getElem?_take] at hj
      split at hj
      · exact hg6 j v hj
      · cases hj) (by omega) (by rw [hz01]; omega) (by omega) (by omega) (by rw [hz02]; omega) (by rw [hz02]; exact growslice_fits (by omega) (by omega))
  rw [show i + (xs.length + 1 - i) = xs.length + 1 by omega, hz01] at hown
  rw [show i + (xs.length + 1 - i) = xs.length + 1 by omega, show ((xs.length + 1 - i : Nat) : Int) = (xs.length : Int) + 1 - (i : Int) by omega] at hrun
  have hiw : IntKind.i64.wrap ((i : Int) + 1) = (i : Int) + 1 := IntWalk.i64_in _ (by omega)
  have hi1 : (i : Int) ≤ (xs.length : Int) := by omega
  have hi2 : ((i : Int) == (xs.length : Int)) = false := by rw [beq_eq_false_iff_ne]; omega
  have hb1 : (0 : Int) ≤ (i : Int) + 1 := by omega
  have hb3 : (i : Int) + 1 ≤ (xs.length : Int) + 1 := by omega
  have hb4 : ¬ (c = i) := by omega
  have hb7 : (i : Int) ≤ (xs.length : Int) + 1 := by omega
  have hb8 : (0 : Int) ≤ (i : Int) := by omega
  have hb9 : (c : Int) < (xs.length : Int) + 1 := by omega
  have hb10 : (i : Int) ≤ (c : Int) := by omega
  have htn : ((i : Int) + 1).toNat = i + 1 := by omega
  have hGc := own_cap hown _ _ _ rfl
  have hGi : ¬ (G = i) := by omega
  have hGj : ¬ (G = i + 1) := by omega
  have hone2 : ∀ v ∈ xs.flatMap numC, v.oneCell' = true := by
    intro v hv
    obtain ⟨x, _, hxv⟩ := List.mem_flatMap.1 hv
    exact hone x v hxv
  have hey : (numC y).length = 1 := rfl
  have hdl : ((xs.flatMap numC).drop (i)).length = (xs.length - i) * 1 := by rw [List.length_drop, hflat]; omega
  have hvw := (Array.getElem?_eq_some_iff.1 hv).1
  have hv1 : W1.heap[vb]? = some (.cells (numC y).toArray 3) := (hbel.block vb hvw).trans hv
  have hwN : w.heap.size < W1.heap.size := hown.lt _ rfl
  obtain ⟨r5, r5f⟩ : (∀ j, j < (xs.length + 1) * 1 → (W1.cell? ⟨w.heap.size, j, none⟩).isSome = true) ∧ (∀ j, j < (xs.length + 1) * 1 → W1.frozen? ⟨w.heap.size, j, none⟩ = false) := by
    rcases hown.2 with ⟨h0, _⟩ | ⟨g', off', c', e, g1, g2, g3, g4, g5, g6⟩
    · omega
    · injection e with e5 _ e6
      injection e5 with e5
      injection e5 with e5 e7
      subst e5 e6 e7
      exact ⟨fun j hj => by have := (g5 j (by omega)).1; rwa [Nat.zero_add] at this, fun j hj => by have := (g5 j (by omega)).2; rwa [Nat.zero_add] at this⟩
  have hcpA : ∀ ty dc, (Builtin.copy_ #[23, 23] ty #[.slice (some ⟨w.heap.size, i, none⟩) (xs.length + 1 - i) dc, .slice (some ⟨vb, 0, none⟩) 1 1]).run Tryz.prog W1 = .ok (goInt ((1 : Nat) : Int)) (W1.setCells w.heap.size (i) (numC y)) := fun ty dc =>
    run_copy_sz W1 _ _ ty 3 1 w.heap.size (i) (xs.length + 1 - i) dc ⟨vb, 0, none⟩ 1 1 1 (numC y) Tryz.underlying23 (by rw [hi0]; simp [hz01]) (by simp only [Nat.min_def]; split <;> omega) rfl
      (fun j v hj => by rw [Addr.add_lit, Nat.zero_add]; exact en_at hv1 j v hj)
      (fun j hj => r5 _ (by omega)) (fun j hj => r5f _ (by omega)) (fun v hv => hone y v hv)
  have hown2 := own_set (k := i) (m := 1) hown (by omega) (by omega) (show (numC y).length = 1 * 1 from rfl)
  rw [Nat.zero_add] at hown2
  simp only [Nat.mul_one] at hown2
  obtain ⟨W2, hW2⟩ : ∃ W2, W2 = W1.setCells w.heap.size (i) (numC y) := ⟨_, rfl⟩
  have hK2 : Keeps (fun k => k = w.heap.size) W1 W2 := by rw [hW2]; exact keeps_setCells (F := fun k => k = w.heap.size) rfl _ _ _
  have r6 : ∀ j, j < (xs.length + 1) * 1 → (W2.cell? ⟨w.heap.size, j, none⟩).isSome = true := fun j hj => by
    rw [hW2]
    exact setCells_some _ _ _ _ (fun k hk => r5 _ (by omega)) _ (r5 j hj)
  have r6f : ∀ j, j < (xs.length + 1) * 1 → W2.frozen? ⟨w.heap.size, j, none⟩ = false := fun j hj => by rw [hW2, World.frozen?_setCells]; exact r5f j hj
  rw [← hW2] at hcpA hown2
  have hgne : g ≠ w.heap.size := by omega
  have hcpB : ∀ ty dc sc, (Builtin.copy_ #[23, 23] ty #[.slice (some ⟨w.heap.size, i + 1, none⟩) (xs.length - i) dc, .slice (some ⟨g, off + i, none⟩) (xs.length - i) sc]).run Tryz.prog W2.drew = .ok (goInt ((xs.length - i : Nat) : Int)) (W2.drew.setCells w.heap.size (i + 1) ((xs.flatMap numC).drop (i))) := fun ty dc sc =>
    run_copy_sz W2.drew _ _ ty 3 1 w.heap.size (i + 1) (xs.length - i) dc ⟨g, off + i, none⟩ (xs.length - i) sc (xs.length - i) ((xs.flatMap numC).drop (i)) Tryz.underlying23 (by rw [hi0]; simp [hz01]) (by simp only [Nat.min_def]; split <;> omega) hdl
      (fun j v hj => by
        rw [Addr.add_lit, Nat.add_assoc]
        exact (World.cell?_of_block (w := W1) (hK2.block g (by omega) hgne)).trans ((World.cell?_of_block (w := w) (hbel.block g hgw)).trans (hg6 _ v (by rwa [List.getElem?_drop] at hj))))
      (fun j hj => r6 _ (by omega)) (fun j hj => r6f _ (by omega)) (fun v hv => hone2 v (List.mem_of_mem_drop hv))
  have hown3 := own_set (k := i + 1) (m := xs.length - i) (hown2.below (below_drew (Below.refl _ _))) (by omega) (by omega) hdl
  rw [Nat.zero_add] at hown3
  simp only [Nat.mul_one] at hown3
  have H3 := Lib.hid hown3
  have HB := Lib.hid (hbel.trans ((hK2.trans (Keeps.of_below (below_drew (Below.refl _ _)))).below hbel.size fun k e => by omega))
  have HZ := Lib.hid (And.intro hzl htl)
  clear hown hown2 hown3 hbel hK2 r5 r5f r6 r6f hW2 hone hone2 hg6 hv1 hvw hey
  go_enter Tryz.func43, Tryz.ntmps43
  go_wp2_with (first
    | (at_builtin; refine Lib.wpList_append_run _ rfl (.tmp 34) (.tmp 39) _ _ rfl _ _ rfl rfl _ _ hrun ?_)
    | (at_builtin; refine wpList_copy_r _ rfl (.tmp 43) (.tmp 44) 23 23 rfl _ _ rfl rfl (hcpA _ _) ?_))
  go_region_law (refine step_copy_r rfl (.tmp 50) (.tmp 53) 23 23 rfl _ _ (by simp [Act.eval, Act.put]) (by simp [Act.eval, Act.put]) (hcpB _ _ _) ?_)
  go_wp2_with fail
  go_ret
  obtain ⟨hzl, htl⟩ := HZ.out
  rw [hz01] at hzl htl
  simp only [Nat.mul_one] at htl hzl
  have hL : ∀ (T Z C D : List Value), T.length = i → Z.length = xs.length + 1 - i → C.length = 1 → ((T ++ Z).take (i) ++ (C ++ (T ++ Z).drop (i + 1))).take (i + 1) ++ (D ++ ((T ++ Z).take (i) ++ (C ++ (T ++ Z).drop (i + 1))).drop (i + 1 + (xs.length - i))) = T ++ (C ++ D) := by
    intro T Z C D hT hZ hC
    rw [List.take_left' (show T.length = i by omega), ← List.append_assoc T C, List.take_left' (by rw [List.length_append]; omega), List.drop_eq_nil_of_le (by simp only [List.length_append, List.length_drop]; omega), List.append_nil, List.append_assoc]
  have h3 := H3.out
  rw [hL _ _ _ _ htl hzl rfl] at h3
  refine ⟨_, rfl, ?_, Keeps.of_below (HB.out.trans ((keeps_setCells (F := fun k => k = w.heap.size) rfl _ _ _).below HB.out.size fun k e => by omega)), .inr fun k hk => ?_⟩
  · rw [List.length_append, List.length_cons, List.length_take, List.length_drop, show min i xs.length + (xs.length - i + 1) = xs.length + 1 by omega, List.flatMap_append, List.flatMap_cons, en_take, en_drop]
    simp only [Nat.mul_one]
    exact h3.mono hbw
  · have : k = w.heap.size := (Option.some.inj hk).symm
    omega
theorem insert_any (w : World) (b0 vb i : Nat) (lv : Value) (xs : List Int) (y : Int) (hone : ∀ x, ∀ u ∈ numC x, u.oneCell' = true) (ho : Own w b0 1 lv xs.length (xs.flatMap numC)) (hv : w.heap[vb]? = some (.cells (numC y).toArray 3)) (hne : lv.ownBlock ≠ some vb) (hx : xs.length ≤ 1048576) (hi : i ≤ xs.length) (hb : b0 ≤ w.heap.size) :
    Calls Tryz.prog 43 #[lv, .int .i64 i, .slice (some ⟨vb, 0, none⟩) 1 1] w (InsP b0 lv (xs.take i ++ y :: xs.drop i) w) := by
  rcases Nat.lt_or_ge i xs.length with h | h
  · obtain ⟨g, off, c, rfl, -⟩ := ho.form' (by omega)
    rcases Nat.lt_or_ge xs.length c with h2 | h2
    · exact insert_mid w b0 vb g off c i xs y hone ho hv (fun e => hne (by rw [e]; rfl)) hx h h2
    · exact insert_grow w b0 vb g off c i xs y hone ho hv hx h (by omega)
  · obtain rfl : i = xs.length := by omega
    have hs : Src w (.slice (some ⟨vb, 0, none⟩) 1 1) 1 (numC y) := by
      refine ⟨_, _, rfl, .inr ⟨_, rfl, fun j u hj => ?_⟩⟩
      rw [Addr.add_lit, Nat.zero_add]
      exact en_at hv j u hj
    have := insert_end w b0 vb lv xs y (hone y) ho hs hx hb
    rwa [List.take_length, List.drop_length]
end Go.Proofs.YtadaeecokkokjaaGreat.InsI
