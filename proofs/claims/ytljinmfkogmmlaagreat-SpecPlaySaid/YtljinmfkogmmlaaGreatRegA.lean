/-
  Layer 20's registry: names with their specs in memory; New, find, Get, Set of any name and spec. Conditions: each theorem's own.
-/
import Derived.Test.YtljinmfkogmmlaaGreatSpecA
import Derived.Test.YtljinmfkogmmlaaGreatNums
import Derived.Test.YtljinmfkogmmlaaGreatRunA
import Derived.Test.YtljinmfkogmmlaaGreatBox
import Derived.Lib.Overlaps
import Derived.Deep.RegionLaw
import Derived.Test.YtljinmfkogmmlaaGreatSpecL
import Derived.Test.YtljinmfkogmmlaaGreatTabPlain
/-
  Names with their specs, in memory: seven cells each. No program in sight but its types.
-/
namespace Go.Proofs.YtljinmfkogmmlaaGreat.Spc
open Go.ChangeShapes Go.WideShapes Go.Deep Go.RowKit
/-- A name and its spec, with the values of the spec's rows. -/
structure Nm where
  n : List UInt8
  va : Value
  vw : Value
  x : Sp
def namC (e : Nm) : List Value := [.string (B e.n), e.va, e.vw, .string (B e.x.g), .string (B e.x.x), .string (B e.x.p), .string (B e.x.s)]
theorem info_nam : (Tryz.prog.info? 43).map (fun i => (i.zero, i.size, i.bytes)) = some (some (.agg #[.string ByteArray.empty, .slice none 0 0, .slice none 0 0, .string ByteArray.empty, .string ByteArray.empty, .string ByteArray.empty, .string ByteArray.empty]), 7, 128) := by kernel_rfl
end Go.Proofs.YtljinmfkogmmlaaGreat.Spc
/-
  The walk of slices.Insert of a name with its spec: at any place, room or not. Conditions: rows of at most 2^20 names.
-/
namespace Go.Proofs.YtljinmfkogmmlaaGreat.InsN
open Go.ChangeShapes Go.WideShapes Go.Deep Go.RowKit
set_option linter.unusedSimpArgs false
set_option linter.unusedVariables false
set_option maxRecDepth 100000
theorem en_flat (xs : List Spc.Nm) : (xs.flatMap Spc.namC).length = xs.length * 7 := by
  induction xs with
  | nil => rfl
  | cons y ys ih => rw [List.flatMap_cons, List.length_append, ih, show (Spc.namC y).length = 7 from rfl, List.length_cons]; omega
/-- What slices.Insert leaves. -/
def InsP (b0 : Nat) (lv : Value) (ys : List Spc.Nm) (w : World) (e : Ending) (w' : World) : Prop :=
  ∃ v', e = .returned v' ∧ Own w' b0 7 v' ys.length (ys.flatMap Spc.namC) ∧ Keeps (fun k => lv.ownBlock = some k ∧ b0 ≤ k) w w' ∧ (v'.ownBlock = lv.ownBlock ∨ ∀ k, v'.ownBlock = some k → w.heap.size ≤ k)
set_option maxHeartbeats 1600000 in
theorem insert_end (w : World) (b0 vb : Nat) (lv : Value) (xs : List Spc.Nm) (y : Spc.Nm) (hone : ∀ u ∈ Spc.namC y, u.oneCell' = true) (ho : Own w b0 7 lv xs.length (xs.flatMap Spc.namC)) (hs : Src w (.slice (some ⟨vb, 0, none⟩) 1 1) 1 (Spc.namC y)) (hx : xs.length ≤ 1048576) (hb : b0 ≤ w.heap.size) :
    Calls Tryz.prog 36 #[lv, .int .i64 xs.length, .slice (some ⟨vb, 0, none⟩) 1 1] w (InsP b0 lv (xs ++ [y]) w) := by
  obtain ⟨i0, hi0, hz00, hz01, hz02⟩ := info_parts Spc.info_nam
  have hcap := own_cap ho
  have HO := Lib.hid ho
  obtain ⟨A, c, rfl, hA⟩ := ho.form0
  have hc := hcap A _ c rfl
  have HS := Lib.hid hs
  have HON := Lib.hid hone
  clear hcap ho hs hone
  cases A with
  | none =>
    have h0 : xs.length = 0 := by
      rcases Nat.eq_zero_or_pos xs.length with h | h
      · exact h
      · obtain ⟨g, off, e⟩ := hA h; cases e
    have : xs = [] := List.eq_nil_of_length_eq_zero h0
    subst this
    clear hA h0
    go_enter Tryz.func36, Tryz.ntmps36
    go_wp2_with ((at_builtin; refine wpList_append_src _ rfl (.tmp 23) (.tmp 24) _ rfl b0 43 i0 _ 7 128 Tryz.underlying41 hi0 hz00 hz01 hz02 rfl (by decide) _ 0 [] rfl (show Own w b0 7 (.slice none 0 c) 0 [] from HO.out) _ 1 (Spc.namC y) rfl rfl HS.out HON.out (by unfold maxLen; omega) (by omega) (by first | (simp; done) | omega | (simp; omega)) ?_; intro v1 w1 hown1 hg1 hat1 hty1; have HTY1 := Lib.hid hty1; clear hty1))
    go_ret
    exact ⟨v1, rfl, by simpa [List.flatMap_append] using hown1, hg1, hat1⟩
  | some a =>
    clear hA
    go_enter Tryz.func36, Tryz.ntmps36
    go_wp2_with ((at_builtin; refine wpList_append_src _ rfl (.tmp 23) (.tmp 24) _ rfl b0 43 i0 _ 7 128 Tryz.underlying41 hi0 hz00 hz01 hz02 rfl (by decide) _ xs.length (xs.flatMap Spc.namC) rfl HO.out _ 1 (Spc.namC y) rfl rfl HS.out HON.out (by unfold maxLen; omega) (by omega) (by first | (simp; done) | omega | (simp; omega)) ?_; intro v1 w1 hown1 hg1 hat1 hty1; have HTY1 := Lib.hid hty1; clear hty1))
    all_goals
      go_ret
      exact ⟨v1, rfl, by simpa [List.flatMap_append] using hown1, hg1, hat1⟩
/-- 'copy(d, s)', where its run is known. -/
theorem wp_copy_r {P : Program} (w : World) {o : Oper} {a : Act} {K : Act → World → Prop} {Q : Exit → Act → World → Prop} (d s : Operand) (t t' : TypeId)
    (ho : o.op = .call { callee := .builtin .copy, args := #[d, s], argTypes := #[t, t'] }) (v u : Value) (hd : a.eval d = v) (hs : a.eval s = u) {v' : Value} {w' : World}
    (hr : (Builtin.copy_ #[t, t'] o.type #[v, u]).run P w = .ok v' w') (h : K (a.put o.dst v') w') : o.wp P a w K Q := by
  unfold Oper.wp execOp
  simp only [ho, resolve, invoke, builtin, Sem.run_bind, Sem.run_pure, Result.andThen_ok, List.map_toArray, List.map_cons, List.map_nil, hd, hs, hr]
  exact h
theorem wpList_copy_r {P : Program} (w : World) {ops : Array Oper} {rest : List Oper} {o : Oper} {a : Act} {Q : Exit → Act → World → Prop} (hgd : o.guard = none) (d s : Operand) (t t' : TypeId)
    (ho : o.op = .call { callee := .builtin .copy, args := #[d, s], argTypes := #[t, t'] }) (v u : Value) (hd : a.eval d = v) (hs : a.eval s = u) {v' : Value} {w' : World}
    (hr : (Builtin.copy_ #[t, t'] o.type #[v, u]).run P w = .ok v' w') (h : wpList P ops Q rest (a.put o.dst v') w') : wpList P ops Q (o :: rest) a w :=
  wpList_plain hgd fun _ hK => wp_copy_r w d s t t' ho v u hd hs hr (hK _ _ h)
theorem step_copy_r {P : Program} {ops : Array Oper} {o : Oper} {a : Act} {w : World} {K : Act → World → Prop} {Q : Exit → Act → World → Prop} {E : Prop}
    (hg : o.guard = none) (d x : Operand) (dT sT : TypeId) (hop : o.op = Op.call { callee := Callee.builtin Builtin.copy, args := #[d, x], argTypes := #[dT, sT] })
    (v u : Value) (hd : a.eval d = v) (hx : a.eval x = u) {v' : Value} {w' : World} (hr : (Builtin.copy_ #[dT, sT] o.type #[v, u]).run P w = .ok v' w') (hK : K (a.put o.dst v') w') :
    if Region.wanted o (yielded ops a.tmps) = true then Oper.wp P o a w K Q else E := by
  rw [if_pos (by simp [Region.wanted, hg])]
  exact wp_copy_r w d x dT sT hop v u hd hx hr hK
theorem overlaps_no (w : World) (g o vb n c lb cb : Nat) (y : Spc.Nm) (hne : vb ≠ g) (hv : w.heap[vb]? = some (.cells (Spc.namC y).toArray 43)) (hg : ∃ u, w.cell? ⟨g, o, none⟩ = some u) :
    (callFunc 61 #[.slice (some ⟨vb, 0, none⟩) n c, .slice (some ⟨g, o, none⟩) lb cb]).run Tryz.prog w = .ok (.value (.bool false)) w := by
  obtain ⟨i0, hi0, hz00, hz01, hz02⟩ := info_parts Spc.info_nam
  have hsz : ∀ w, (Go.sizeOf 43).run Tryz.prog w = .ok 7 w := fun w => by simp [sizeOf, typeInfo, hi0, hz01]
  have hsa : w.shape? vb = some (43, 7) := by simp [World.shape?, hv, show (Spc.namC y).length = 7 from rfl]
  obtain ⟨u, hu⟩ := hg
  obtain ⟨tB, kB, hsb, hkB⟩ : ∃ tB kB, w.shape? g = some (tB, kB) ∧ kB ≠ 0 := by
    unfold World.cell? at hu
    split at hu
    · rename_i cc el r hq
      refine ⟨el, cc.size, by simp only [World.shape?]; rw [hq], fun h0 => ?_⟩
      rw [if_neg (by simp), Array.getElem?_eq_none (by omega)] at hu
      cases hu
    · cases hu
  rw [run_callFunc_extern (fn := Tryz.f61) Tryz.func61 (by kernel_rfl) (by kernel_rfl) (by kernel_rfl) (e := Extern.SlicesOverlaps.overlaps #[41, 41] #[4]) (by kernel_rfl),
    Lib.run_overlaps_apart w 41 4 43 Tryz.underlying41 7 hsz ⟨vb, 0, none⟩ ⟨g, o, none⟩ n c lb cb hne _ _ _ _ hsa hsb hkB (by simp [World.frozen?, hv]) (by simp [World.frozen?, hv])]
  rfl
theorem en_take (xs : List Spc.Nm) (i : Nat) : (xs.take i).flatMap Spc.namC = (xs.flatMap Spc.namC).take (i * 7) := by
  induction xs generalizing i with
  | nil => simp
  | cons y ys ih =>
    cases i with
    | zero => simp
    | succ i => rw [List.take_succ_cons, List.flatMap_cons, ih, List.flatMap_cons, show (i + 1) * 7 = (Spc.namC y).length + i * 7 by rw [show (Spc.namC y).length = 7 from rfl]; omega, List.take_length_add_append]
theorem en_drop (xs : List Spc.Nm) (i : Nat) : (xs.drop i).flatMap Spc.namC = (xs.flatMap Spc.namC).drop (i * 7) := by
  induction xs generalizing i with
  | nil => simp
  | cons y ys ih =>
    cases i with
    | zero => simp
    | succ i => rw [List.drop_succ_cons, ih, List.flatMap_cons, show (i + 1) * 7 = (Spc.namC y).length + i * 7 by rw [show (Spc.namC y).length = 7 from rfl]; omega, List.drop_length_add_append]
theorem setCells_some (b : Nat) (vs : List Value) (o : Nat) (w : World) (h : ∀ j, j < vs.length → (w.cell? ⟨b, o + j, none⟩).isSome = true) (k : Nat) (hk : (w.cell? ⟨b, k, none⟩).isSome = true) : ((w.setCells b o vs).cell? ⟨b, k, none⟩).isSome = true := by
  by_cases hin : o ≤ k ∧ k < o + vs.length
  · have := World.cell?_setCells_in b vs o w h (k - o) (by omega)
    rw [show o + (k - o) = k by omega] at this
    rw [this]; rfl
  · rw [World.cell?_setCells_out b vs o w ⟨b, k, none⟩ (fun _ _ => by show k < o ∨ o + vs.length ≤ k; omega)]
    exact hk
theorem en_at {w : World} {vb : Nat} {cs : List Value} {t : TypeId} (hv : w.heap[vb]? = some (.cells cs.toArray t)) (j : Nat) (v : Value) (hj : cs[j]? = some v) : w.cell? ⟨vb, j, none⟩ = some v := by
  simp only [World.cell?, hv]
  simpa using hj
set_option maxHeartbeats 1600000 in
theorem insert_mid (w : World) (b0 vb g off c i : Nat) (xs : List Spc.Nm) (y : Spc.Nm) (hone : ∀ x ∈ y :: xs, ∀ u ∈ Spc.namC x, u.oneCell' = true) (ho : Own w b0 7 (.slice (some ⟨g, off, none⟩) xs.length c) xs.length (xs.flatMap Spc.namC)) (hv : w.heap[vb]? = some (.cells (Spc.namC y).toArray 43)) (hne : vb ≠ g) (hx : xs.length ≤ 1048576) (hi : i < xs.length) (hroom : xs.length + 1 ≤ c) :
    Calls Tryz.prog 36 #[.slice (some ⟨g, off, none⟩) xs.length c, .int .i64 i, .slice (some ⟨vb, 0, none⟩) 1 1] w (InsP b0 (.slice (some ⟨g, off, none⟩) xs.length c) (xs.take i ++ y :: xs.drop i) w) := by
  obtain ⟨i0, hi0, hz00, hz01, hz02⟩ := info_parts Spc.info_nam
  obtain ⟨g', off', c', e, g1, g2, g3, g4, g5, g6⟩ : ∃ g' off' c', Value.slice (some ⟨g, off, none⟩) xs.length c = .slice (some ⟨g', off', none⟩) xs.length c' ∧ b0 ≤ g' ∧ g' < w.heap.size ∧ xs.length ≤ c' ∧ c' ≤ maxLen ∧
      (∀ j, j < c' * 7 → (w.cell? ⟨g', off' + j, none⟩).isSome = true ∧ w.frozen? ⟨g', off' + j, none⟩ = false) ∧ ∀ j u, (xs.flatMap Spc.namC)[j]? = some u → w.cell? ⟨g', off' + j, none⟩ = some u := by
    rcases ho.2 with ⟨h0, _⟩ | h
    · omega
    · exact h
  injection e with e5 _ e6
  injection e5 with e5
  injection e5 with e5 e7
  subst e5 e6 e7
  have hsh := own_shift (i := i) (ho.below (below_drew (Below.refl _ _))) (by decide) (by omega) hroom (show (Spc.namC y).length = 7 from rfl)
  skip
  have hsh := Lib.hid hsh
  have hov := fun o lb cb (h : ∃ u, w.cell? ⟨g, o, none⟩ = some u) => overlaps_no w g o vb 1 1 lb cb y hne hv h
  have hc63 : c ≤ 9223372036854775807 := by unfold maxLen at g4; omega
  have hiw : IntKind.i64.wrap ((i : Int) + 1) = (i : Int) + 1 := IntWalk.i64_in _ (by omega)
  have hi1 : (i : Int) ≤ (xs.length : Int) := by omega
  have hi2 : ((i : Int) == (xs.length : Int)) = false := by rw [beq_eq_false_iff_ne]; omega
  have hb1 : (0 : Int) ≤ (i : Int) + 1 := by omega
  have hb2 : ¬ (c = i + 1) := by omega
  have hb3 : (i : Int) + 1 ≤ (xs.length : Int) + 1 := by omega
  have hb4 : ¬ (c = i) := by omega
  have hb7 : (i : Int) ≤ (xs.length : Int) + 1 := by omega
  have hb8 : (0 : Int) ≤ (i : Int) := by omega
  have hb5 := no (show ¬ (c : Int) < (xs.length : Int) + 1 by omega)
  have hb6 : (xs.length : Int) + 1 ≤ (c : Int) := by omega
  have htn : ((i : Int) + 1).toNat = i + 1 := by omega
  have hflat := en_flat xs
  have hey : (Spc.namC y).length = 7 := rfl
  have hdl : ((xs.flatMap Spc.namC).drop (i * 7)).length = (xs.length - i) * 7 := by rw [List.length_drop, hflat]; omega
  have hone2 : ∀ v ∈ xs.flatMap Spc.namC, v.oneCell' = true := by
    intro v hv
    obtain ⟨x, hxm, hxv⟩ := List.mem_flatMap.1 hv
    exact hone x (List.mem_cons_of_mem _ hxm) v hxv
  have hov0 := hov (off + ((i + 1) * 7)) (xs.length - i) (c - (i + 1)) (Option.isSome_iff_exists.1 (g5 _ (by omega)).1)
  have hcp1 : ∀ ty dc sc, (Builtin.copy_ #[41, 41] ty #[.slice (some ⟨g, off + ((i + 1) * 7), none⟩) (xs.length - i) dc, .slice (some ⟨g, off + i * 7, none⟩) (xs.length + 1 - i) sc]).run Tryz.prog w.drew = .ok (goInt ((xs.length - i : Nat) : Int)) (w.drew.setCells g (off + ((i + 1) * 7)) ((xs.flatMap Spc.namC).drop (i * 7))) := fun ty dc sc =>
    run_copy_sz w.drew _ _ ty 43 7 g (off + ((i + 1) * 7)) (xs.length - i) dc ⟨g, off + i * 7, none⟩ (xs.length + 1 - i) sc (xs.length - i) ((xs.flatMap Spc.namC).drop (i * 7)) Tryz.underlying41 (by rw [hi0]; simp [hz01]) (by simp only [Nat.min_def]; split <;> omega) hdl
      (fun j v hj => by rw [Addr.add_lit, Nat.add_assoc]; exact g6 _ v (by rwa [List.getElem?_drop] at hj))
      (fun j hj => by rw [Nat.add_assoc]; exact (g5 _ (by omega)).1) (fun j hj => by rw [Nat.add_assoc]; exact (g5 _ (by omega)).2) (fun v hv => hone2 v (List.mem_of_mem_drop hv))
  obtain ⟨W1, hW1⟩ : ∃ W1, W1 = w.drew.setCells g (off + ((i + 1) * 7)) ((xs.flatMap Spc.namC).drop (i * 7)) := ⟨_, rfl⟩
  have hK1 : Keeps (fun k => k = g) w W1 := by rw [hW1]; exact (Keeps.of_below (below_drew (Below.refl _ _))).trans (keeps_setCells (F := fun k => k = g) rfl _ _ _)
  have hvb := (Array.getElem?_eq_some_iff.1 hv).1
  have hv1 : W1.heap[vb]? = some (.cells (Spc.namC y).toArray 43) := (hK1.block vb hvb hne).trans hv
  have hs1 : ∀ j, j < c * 7 → (W1.cell? ⟨g, off + j, none⟩).isSome = true := fun j hj => by
    rw [hW1]
    exact setCells_some g _ _ _ (fun k hk => by rw [Nat.add_assoc]; exact (g5 _ (by omega)).1) _ (g5 j hj).1
  have hcp2 : ∀ ty dc, (Builtin.copy_ #[41, 41] ty #[.slice (some ⟨g, off + i * 7, none⟩) (xs.length + 1 - i) dc, .slice (some ⟨vb, 0, none⟩) 1 1]).run Tryz.prog W1 = .ok (goInt ((1 : Nat) : Int)) (W1.setCells g (off + i * 7) (Spc.namC y)) := fun ty dc =>
    run_copy_sz W1 _ _ ty 43 7 g (off + i * 7) (xs.length + 1 - i) dc ⟨vb, 0, none⟩ 1 1 1 (Spc.namC y) Tryz.underlying41 (by rw [hi0]; simp [hz01]) (by simp only [Nat.min_def]; split <;> omega) rfl
      (fun j v hj => by rw [Addr.add_lit, Nat.zero_add]; exact en_at hv1 j v hj)
      (fun j hj => by rw [Nat.add_assoc]; exact hs1 _ (by omega)) (fun j hj => by rw [hW1, World.frozen?_setCells, Nat.add_assoc]; exact (g5 _ (by omega)).2) (fun v hv => hone y (List.mem_cons_self ..) v hv)
  rw [← hW1] at hcp1 hsh
  have HK1 := Lib.hid hK1
  have HF := Lib.hid (show ((xs.take i ++ y :: xs.drop i).flatMap Spc.namC) = (xs.flatMap Spc.namC).take (i * 7) ++ (Spc.namC y ++ (xs.flatMap Spc.namC).drop (i * 7)) by
    rw [List.flatMap_append, List.flatMap_cons, en_take, en_drop])
  have HLN := Lib.hid (show (xs.take i ++ y :: xs.drop i).length = xs.length + 1 by simp; omega)
  clear hov hflat hK1 hv1 hs1 hvb hW1 hdl hone hone2 g5 g6 hey
  go_enter Tryz.func36, Tryz.ntmps36
  go_wp2_with (simp only [hov0])
  clear hov0
  go_region_law (refine step_copy_r rfl (.tmp 73) (.tmp 76) 41 41 rfl _ _ (by simp [Act.eval, Act.put]) (by simp [Act.eval, Act.put]) (hcp1 _ _ _) ?_)
  go_wp2_with (at_builtin; refine wpList_copy_r _ rfl (.tmp 80) (.tmp 81) 41 41 rfl _ _ rfl rfl (hcp2 _ _) ?_)
  go_ret
  refine ⟨_, rfl, by rw [HF.out, HLN.out]; exact hsh.out, ?_, .inl rfl⟩
  exact (HK1.out.mono fun k _ e => ⟨by rw [e]; rfl, by omega⟩).trans (keeps_setCells ⟨rfl, by omega⟩ _ _ _)
set_option maxHeartbeats 1600000 in
theorem insert_grow (w : World) (b0 vb g off c i : Nat) (xs : List Spc.Nm) (y : Spc.Nm) (hone : ∀ x ∈ y :: xs, ∀ u ∈ Spc.namC x, u.oneCell' = true) (ho : Own w b0 7 (.slice (some ⟨g, off, none⟩) xs.length c) xs.length (xs.flatMap Spc.namC)) (hv : w.heap[vb]? = some (.cells (Spc.namC y).toArray 43)) (hx : xs.length ≤ 1048576) (hi : i < xs.length) (hroom : c < xs.length + 1) :
    Calls Tryz.prog 36 #[.slice (some ⟨g, off, none⟩) xs.length c, .int .i64 i, .slice (some ⟨vb, 0, none⟩) 1 1] w (InsP b0 (.slice (some ⟨g, off, none⟩) xs.length c) (xs.take i ++ y :: xs.drop i) w) := by
  obtain ⟨i0, hi0, hz00, hz01, hz02⟩ := info_parts Spc.info_nam
  have hcap := own_cap ho _ _ _ rfl
  have hgw := ho.lt g rfl
  have hbw : b0 ≤ w.heap.size := by
    rcases ho.2 with ⟨h0, _⟩ | ⟨g', off', c', e, g1, g2, _⟩
    · omega
    · omega
  have hg6 : ∀ j u, (xs.flatMap Spc.namC)[j]? = some u → w.cell? ⟨g, off + j, none⟩ = some u := by
    rcases ho.2 with ⟨h0, _⟩ | ⟨g', off', c', e, g1, g2, g3, g4, g5, g6⟩
    · omega
    · injection e with e5 _ e6
      injection e5 with e5
      injection e5 with e5 e7
      subst e5 e6 e7
      exact g6
  have hflat := en_flat xs
  have htl : ((xs.flatMap Spc.namC).take (i * 7)).length = i * i0.size := by rw [List.length_take, hflat, hz01]; omega
  obtain ⟨G, W1, zs, hrun, hown, hzl, hbel⟩ := own_zeros (P := Tryz.prog) (w := w) (t := 41) (tn := 3) (ty := 41) (kq := .i64) (kn := .i64) (a := ⟨g, off, none⟩) (n := i) (c := c) (k := xs.length + 1 - i) Tryz.underlying41 Tryz.underlying3 hi0 hz00 (by rw [hz01]; rfl) htl
    (fun j v hj => by
      rw [Addr.add_lit]
      rw [List.getElem?_take] at hj
      split at hj
      · exact hg6 j v hj
      · cases hj) (by omega) (by rw [hz01]; omega) (by omega) (by omega) (by rw [hz02]; omega) (by rw [hz02]; exact growslice_fits (by omega) (by omega))
  rw [show i + (xs.length + 1 - i) = xs.length + 1 by omega, hz01] at hown
  rw [show i + (xs.length + 1 - i) = xs.length + 1 by omega, show ((xs.length + 1 - i : Nat) : Int) = (xs.length : Int) + 1 - (i : Int) by omega] at hrun
  have hiw : IntKind.i64.wrap ((i : Int) + 1) = (i : Int) + 1 := IntWalk.i64_in _ (by omega)
  have hi1 : (i : Int) ≤ (xs.length : Int) := by omega
  have hi2 : ((i : Int) == (xs.length : Int)) = false := by rw [beq_eq_false_iff_ne]; omega
  have hb1 : (0 : Int) ≤ (i : Int) + 1 := by omega
  have hb3 : (i : Int) + 1 ≤ (xs.length : Int) + 1 := by omega
  have hb4 : ¬ (c = i) := by omega
  have hb7 : (i : Int) ≤ (xs.length : Int) + 1 := by omega
  have hb8 : (0 : Int) ≤ (i : Int) := by omega
  have hb9 : (c : Int) < (xs.length : Int) + 1 := by omega
  have hb10 : (i : Int) ≤ (c : Int) := by omega
  have htn : ((i : Int) + 1).toNat = i + 1 := by omega
  have hGc := own_cap hown _ _ _ rfl
  have hGi : ¬ (G = i) := by omega
  have hGj : ¬ (G = i + 1) := by omega
  have hone2 : ∀ v ∈ xs.flatMap Spc.namC, v.oneCell' = true := by
    intro v hv
    obtain ⟨x, hxm, hxv⟩ := List.mem_flatMap.1 hv
    exact hone x (List.mem_cons_of_mem _ hxm) v hxv
  have hey : (Spc.namC y).length = 7 := rfl
  have hdl : ((xs.flatMap Spc.namC).drop (i * 7)).length = (xs.length - i) * 7 := by rw [List.length_drop, hflat]; omega
  have hvw := (Array.getElem?_eq_some_iff.1 hv).1
  have hv1 : W1.heap[vb]? = some (.cells (Spc.namC y).toArray 43) := (hbel.block vb hvw).trans hv
  have hwN : w.heap.size < W1.heap.size := hown.lt _ rfl
  obtain ⟨r5, r5f⟩ : (∀ j, j < (xs.length + 1) * 7 → (W1.cell? ⟨w.heap.size, j, none⟩).isSome = true) ∧ (∀ j, j < (xs.length + 1) * 7 → W1.frozen? ⟨w.heap.size, j, none⟩ = false) := by
    rcases hown.2 with ⟨h0, _⟩ | ⟨g', off', c', e, g1, g2, g3, g4, g5, g6⟩
    · omega
    · injection e with e5 _ e6
      injection e5 with e5
      injection e5 with e5 e7
      subst e5 e6 e7
      exact ⟨fun j hj => by have := (g5 j (by omega)).1; rwa [Nat.zero_add] at this, fun j hj => by have := (g5 j (by omega)).2; rwa [Nat.zero_add] at this⟩
  have hcpA : ∀ ty dc, (Builtin.copy_ #[41, 41] ty #[.slice (some ⟨w.heap.size, i * 7, none⟩) (xs.length + 1 - i) dc, .slice (some ⟨vb, 0, none⟩) 1 1]).run Tryz.prog W1 = .ok (goInt ((1 : Nat) : Int)) (W1.setCells w.heap.size (i * 7) (Spc.namC y)) := fun ty dc =>
    run_copy_sz W1 _ _ ty 43 7 w.heap.size (i * 7) (xs.length + 1 - i) dc ⟨vb, 0, none⟩ 1 1 1 (Spc.namC y) Tryz.underlying41 (by rw [hi0]; simp [hz01]) (by simp only [Nat.min_def]; split <;> omega) rfl
      (fun j v hj => by rw [Addr.add_lit, Nat.zero_add]; exact en_at hv1 j v hj)
      (fun j hj => r5 _ (by omega)) (fun j hj => r5f _ (by omega)) (fun v hv => hone y (List.mem_cons_self ..) v hv)
  have hown2 := own_set (k := i) (m := 1) hown (by omega) (by omega) (show (Spc.namC y).length = 1 * 7 from rfl)
  rw [Nat.zero_add] at hown2
  skip
  obtain ⟨W2, hW2⟩ : ∃ W2, W2 = W1.setCells w.heap.size (i * 7) (Spc.namC y) := ⟨_, rfl⟩
  have hK2 : Keeps (fun k => k = w.heap.size) W1 W2 := by rw [hW2]; exact keeps_setCells (F := fun k => k = w.heap.size) rfl _ _ _
  have r6 : ∀ j, j < (xs.length + 1) * 7 → (W2.cell? ⟨w.heap.size, j, none⟩).isSome = true := fun j hj => by
    rw [hW2]
    exact setCells_some _ _ _ _ (fun k hk => r5 _ (by omega)) _ (r5 j hj)
  have r6f : ∀ j, j < (xs.length + 1) * 7 → W2.frozen? ⟨w.heap.size, j, none⟩ = false := fun j hj => by rw [hW2, World.frozen?_setCells]; exact r5f j hj
  rw [← hW2] at hcpA hown2
  have hgne : g ≠ w.heap.size := by omega
  have hcpB : ∀ ty dc sc, (Builtin.copy_ #[41, 41] ty #[.slice (some ⟨w.heap.size, (i + 1) * 7, none⟩) (xs.length - i) dc, .slice (some ⟨g, off + i * 7, none⟩) (xs.length - i) sc]).run Tryz.prog W2.drew = .ok (goInt ((xs.length - i : Nat) : Int)) (W2.drew.setCells w.heap.size ((i + 1) * 7) ((xs.flatMap Spc.namC).drop (i * 7))) := fun ty dc sc =>
    run_copy_sz W2.drew _ _ ty 43 7 w.heap.size ((i + 1) * 7) (xs.length - i) dc ⟨g, off + i * 7, none⟩ (xs.length - i) sc (xs.length - i) ((xs.flatMap Spc.namC).drop (i * 7)) Tryz.underlying41 (by rw [hi0]; simp [hz01]) (by simp only [Nat.min_def]; split <;> omega) hdl
      (fun j v hj => by
        rw [Addr.add_lit, Nat.add_assoc]
        exact (World.cell?_of_block (w := W1) (hK2.block g (by omega) hgne)).trans ((World.cell?_of_block (w := w) (hbel.block g hgw)).trans (hg6 _ v (by rwa [List.getElem?_drop] at hj))))
      (fun j hj => r6 _ (by omega)) (fun j hj => r6f _ (by omega)) (fun v hv => hone2 v (List.mem_of_mem_drop hv))
  have hown3 := own_set (k := i + 1) (m := xs.length - i) (hown2.below (below_drew (Below.refl _ _))) (by omega) (by omega) hdl
  rw [Nat.zero_add] at hown3
  skip
  have H3 := Lib.hid hown3
  have HB := Lib.hid (hbel.trans ((hK2.trans (Keeps.of_below (below_drew (Below.refl _ _)))).below hbel.size fun k e => by omega))
  have HZ := Lib.hid (And.intro hzl htl)
  clear hown hown2 hown3 hbel hK2 r5 r5f r6 r6f hW2 hone hone2 hg6 hv1 hvw hey
  go_enter Tryz.func36, Tryz.ntmps36
  go_wp2_with (first
    | (at_builtin; refine Lib.wpList_append_run _ rfl (.tmp 34) (.tmp 39) _ _ rfl _ _ rfl rfl _ _ hrun ?_)
    | (at_builtin; refine wpList_copy_r _ rfl (.tmp 43) (.tmp 44) 41 41 rfl _ _ rfl rfl (hcpA _ _) ?_))
  go_region_law (refine step_copy_r rfl (.tmp 50) (.tmp 53) 41 41 rfl _ _ (by simp [Act.eval, Act.put]) (by simp [Act.eval, Act.put]) (hcpB _ _ _) ?_)
  go_wp2_with fail
  go_ret
  obtain ⟨hzl, htl⟩ := HZ.out
  rw [hz01] at hzl htl
  skip
  have hL : ∀ (T Z C D : List Value), T.length = i * 7 → Z.length = (xs.length + 1 - i) * 7 → C.length = 7 → ((T ++ Z).take (i * 7) ++ (C ++ (T ++ Z).drop ((i + 1) * 7))).take ((i + 1) * 7) ++ (D ++ ((T ++ Z).take (i * 7) ++ (C ++ (T ++ Z).drop ((i + 1) * 7))).drop ((i + 1 + (xs.length - i)) * 7)) = T ++ (C ++ D) := by
    intro T Z C D hT hZ hC
    rw [List.take_left' (show T.length = i * 7 by omega), ← List.append_assoc T C, List.take_left' (by rw [List.length_append]; omega), List.drop_eq_nil_of_le (by simp only [List.length_append, List.length_drop]; omega), List.append_nil, List.append_assoc]
  have h3 := H3.out
  rw [hL _ _ _ _ htl hzl rfl] at h3
  refine ⟨_, rfl, ?_, Keeps.of_below (HB.out.trans ((keeps_setCells (F := fun k => k = w.heap.size) rfl _ _ _).below HB.out.size fun k e => by omega)), .inr fun k hk => ?_⟩
  · rw [List.length_append, List.length_cons, List.length_take, List.length_drop, show min i xs.length + (xs.length - i + 1) = xs.length + 1 by omega, List.flatMap_append, List.flatMap_cons, en_take, en_drop]
    skip
    exact h3.mono hbw
  · have : k = w.heap.size := (Option.some.inj hk).symm
    omega
theorem insert_any (w : World) (b0 vb i : Nat) (lv : Value) (xs : List Spc.Nm) (y : Spc.Nm) (hone : ∀ x ∈ y :: xs, ∀ u ∈ Spc.namC x, u.oneCell' = true) (ho : Own w b0 7 lv xs.length (xs.flatMap Spc.namC)) (hv : w.heap[vb]? = some (.cells (Spc.namC y).toArray 43)) (hne : lv.ownBlock ≠ some vb) (hx : xs.length ≤ 1048576) (hi : i ≤ xs.length) (hb : b0 ≤ w.heap.size) :
    Calls Tryz.prog 36 #[lv, .int .i64 i, .slice (some ⟨vb, 0, none⟩) 1 1] w (InsP b0 lv (xs.take i ++ y :: xs.drop i) w) := by
  rcases Nat.lt_or_ge i xs.length with h | h
  · obtain ⟨g, off, c, rfl, -⟩ := ho.form' (by omega)
    rcases Nat.lt_or_ge xs.length c with h2 | h2
    · exact insert_mid w b0 vb g off c i xs y hone ho hv (fun e => hne (by rw [e]; rfl)) hx h h2
    · exact insert_grow w b0 vb g off c i xs y hone ho hv hx h (by omega)
  · obtain rfl : i = xs.length := by omega
    have hs : Src w (.slice (some ⟨vb, 0, none⟩) 1 1) 1 (Spc.namC y) := by
      refine ⟨_, _, rfl, .inr ⟨_, rfl, fun j u hj => ?_⟩⟩
      rw [Addr.add_lit, Nat.zero_add]
      exact en_at hv j u hj
    have := insert_end w b0 vb lv xs y (hone y (List.mem_cons_self ..)) ho hs hx hb
    rwa [List.take_length, List.drop_length]
end Go.Proofs.YtljinmfkogmmlaaGreat.InsN
/-
  The walks of layer 20's registry, in part: the search by name. Conditions: at most 2^20 names.
-/
namespace Go.Proofs.YtljinmfkogmmlaaGreat.Spc
open Go.ChangeShapes Go.WideShapes Go.Deep Go.RowKit Tab Mc Pa
set_option linter.unusedSimpArgs false
set_option linter.unusedVariables false
set_option maxRecDepth 100000
def nmE (e : Nm) : Ent := ⟨e.n, []⟩
def placeN (xs : List Nm) (s : List UInt8) : Nat := place (xs.map nmE) s
def RisesN (xs : List Nm) : Prop := Rises (xs.map nmE)
theorem placeN_le (xs : List Nm) (s : List UInt8) : placeN xs s ≤ xs.length := by have := place_le (xs.map nmE) s; rwa [List.length_map] at this
theorem placeN_iff {xs : List Nm} (h : RisesN xs) (s : List UInt8) {t : Nat} (ht : t < xs.length) : Lib.compareBytes xs[t].n s < 0 ↔ t < placeN xs s := by
  have := place_iff h s (t := t) (by rw [List.length_map]; exact ht)
  rwa [List.getElem_map] at this
theorem namC_len {xs : List Nm} : ∀ x ∈ xs, (namC x).length = 7 := fun _ _ => rfl
theorem own_nam {w : World} {b0 g off c : Nat} {xs : List Nm} (h : Own w b0 7 (.slice (some ⟨g, off, none⟩) xs.length c) xs.length (xs.flatMap namC)) {k : Nat} {e : Nm} (hk : xs[k]? = some e) :
    w.cell? ⟨g, off + k * 7, none⟩ = some (.string (B e.n)) ∧ w.cell? ⟨g, off + k * 7 + 1, none⟩ = some e.va ∧ w.cell? ⟨g, off + k * 7 + 2, none⟩ = some e.vw ∧ w.cell? ⟨g, off + k * 7 + 3, none⟩ = some (.string (B e.x.g)) ∧ w.cell? ⟨g, off + k * 7 + 4, none⟩ = some (.string (B e.x.x)) ∧ w.cell? ⟨g, off + k * 7 + 5, none⟩ = some (.string (B e.x.p)) ∧ w.cell? ⟨g, off + k * 7 + 6, none⟩ = some (.string (B e.x.s)) ∧ g < w.heap.size := by
  have G : ∀ j u, (namC e)[j]? = some u → w.cell? ⟨g, off + k * 7 + j, none⟩ = some u := fun j u hj => by
    have := (own_get h namC_len rfl (by omega) hk (j := j) hj).1
    rwa [← Nat.add_assoc] at this
  refine ⟨by simpa using G 0 _ rfl, G 1 _ rfl, G 2 _ rfl, G 3 _ rfl, G 4 _ rfl, G 5 _ rfl, G 6 _ rfl, World.block_lt_of_cell? w _ (G 1 _ rfl)⟩
theorem nfind1_any (e : Nm) (s : List UInt8) (w : World) : Calls Tryz.prog 57 #[.agg #[.string (B e.n), e.va, e.vw, .string (B e.x.g), .string (B e.x.x), .string (B e.x.p), .string (B e.x.s)], .string (B s)] w fun r w' => r = .returned (.int .i64 (Lib.compareBytes e.n s)) ∧ Below w.heap.size w w' := by
  have HC := Lib.hid fun w => (Tryz.strings_Compare (B e.n) (B s) w).mono fun r w' ⟨h1, h2⟩ => (show r = Ending.returned (.int .i64 (Lib.compareBytes e.n s)) ∧ w = w' from ⟨by rw [h1, B_data, B_data], h2.symm⟩)
  go_enter Tryz.func57, Tryz.ntmps57
  go_wp2_with (go_at_call 58; refine (HC.out _).mono ?_; rintro e w' ⟨rfl, rfl⟩)
  go_ret
  exact ⟨rfl, by (repeat (first | exact Below.refl _ _ | assumption | with_reducible refine below_alloc ?_ _ | with_reducible refine below_grow ?_ _ | with_reducible refine below_drewN ?_ _ | with_reducible refine below_drew ?_ | with_reducible refine below_setCell ?_ (by first | (dsimp only; omega) | (simp; done) | (simp; omega)) _))⟩
def NbsP (xs : List Nm) (s : List UInt8) (w : World) (e : Ending) (w' : World) : Prop := e = .returned (.tuple #[.int .i64 (placeN xs s), .bool (((xs[placeN xs s]?).map Nm.n) == some s)]) ∧ Below w.heap.size w w'
set_option maxHeartbeats 1600000 in
theorem nbs_any (w : World) (b0 : Nat) (A : Option Addr) (c : Nat) (xs : List Nm) (s : List UInt8) (ho : Own w b0 7 (.slice A xs.length c) xs.length (xs.flatMap namC)) (hx : xs.length ≤ 1048576) (hr : RisesN xs) :
    Calls Tryz.prog 56 #[.slice A xs.length c, .string (B s), .func (.func 57) #[] #[]] w (NbsP xs s w) := by
  have HR := Lib.hid fun t ht => placeN_iff hr s (t := t) ht
  have HP := Lib.hid (placeN_le xs s)
  have HO := Lib.hid ho
  have HF := Lib.hid fun e w => nfind1_any e s w
  clear ho hr
  unfold NbsP
  generalize placeN xs s = p at *
  go_enter Tryz.func56, Tryz.ntmps56
  go_wp2
  go_loopw [9, 10] (fun i j w' => ∃ a b : Nat, i = .int .i64 a ∧ j = .int .i64 b ∧ a ≤ p ∧ p ≤ b ∧ b ≤ xs.length ∧ Hid (Below w.heap.size w w')) (fun i j _ => (intOf j).toNat - (intOf i).toNat)
  case atStart => exact ⟨0, xs.length, rfl, rfl, by omega, HP.out, by omega, Below.refl _ _⟩
  case round =>
    obtain ⟨a, b, rfl, rfl, hap, hpb, hb, HB⟩ := hrel
    by_cases hlt : a < b
    · have h0 : (a : Int) < (b : Int) := by omega
      obtain ⟨g, off, rfl⟩ : ∃ g off, A = some ⟨g, off, none⟩ := by
        obtain ⟨g, off, c', e, -⟩ := HO.out.form' (by omega)
        injection e with e1
        exact ⟨g, off, e1⟩
      have m0 : (0 : Int) ≤ ((a : Int) + (b : Int)) / 2 := by omega
      have m1 : ((a : Int) + (b : Int)) / 2 < (xs.length : Int) := by omega
      have hmx : (a + b) / 2 < xs.length := by omega
      obtain ⟨x, hxm⟩ := get_some hmx
      have hxe : xs[(a + b) / 2] = x := by have := (List.getElem?_eq_some_iff.1 hxm).2; exact this
      obtain ⟨e0, e1, e2, e3, e4, e5, e6, hg⟩ := own_nam (HO.out.below HB.out) hxm
      have hlp := HR.out _ hmx
      rw [hxe] at hlp
      have HFX := Lib.hid (HF.out x)
      haveI : Old wr g := ⟨hg⟩
      clear hxe hxm
      by_cases hc : Lib.compareBytes x.n s < 0
      · have hlp2 := hlp.1 hc
        clear hlp
        generalize Lib.compareBytes x.n s = cb at *
        go_wp2_with (go_at_call 57; refine (HFX.out _).mono ?_; rintro e w3 ⟨rfl, hb3⟩; have HB3 := Lib.hid (below_then HB.out hb3); clear hb3)
        go_roundw
        case rel => exact ⟨(a + b) / 2 + 1, b, by rw [show ((a : Int) + (b : Int)) / 2 + 1 = (((a + b) / 2 + 1 : Nat) : Int) by omega], rfl, by omega, hpb, hb, HB3.out⟩
        case measure => simp [intOf]; omega
      · have hlp2 : ¬ (a + b) / 2 < p := fun h => hc (hlp.2 h)
        have c0 := no hc
        clear hlp hc
        generalize Lib.compareBytes x.n s = cb at *
        go_wp2_with (go_at_call 57; refine (HFX.out _).mono ?_; rintro e w3 ⟨rfl, hb3⟩; have HB3 := Lib.hid (below_then HB.out hb3); clear hb3)
        go_roundw
        case rel => exact ⟨a, (a + b) / 2, rfl, by rw [show ((a : Int) + (b : Int)) / 2 = (((a + b) / 2 : Nat) : Int) by omega], hap, by omega, by omega, HB3.out⟩
        case measure => simp [intOf]; omega
    · have hp : p = a := by omega
      subst hp
      have d0 := no hlt
      have d1 := no (show ¬ (p : Int) < (b : Int) by omega)
      clear hlt
      by_cases hpn : p < xs.length
      · have p1 : (p : Int) < (xs.length : Int) := by omega
        have p0 : (0 : Int) ≤ (p : Int) := by omega
        obtain ⟨g, off, rfl⟩ : ∃ g off, A = some ⟨g, off, none⟩ := by
          obtain ⟨g, off, c', e, -⟩ := HO.out.form' (by omega)
          injection e with e1
          exact ⟨g, off, e1⟩
        obtain ⟨x, hxm⟩ := get_some hpn
        obtain ⟨e0, e1, e2, e3, e4, e5, e6, hg⟩ := own_nam (HO.out.below HB.out) hxm
        have HFX := Lib.hid (HF.out x)
        have HQ : Hid ((((xs[p]?).map Nm.n) == some s) = (Lib.compareBytes x.n s == 0)) := by
          show _ = _
          rw [hxm, Bool.eq_iff_iff, beq_iff_eq, beq_iff_eq, Option.map_some, Option.some.injEq]
          exact ⟨fun h => by rw [h]; exact cmp_self _, cmp_zero⟩
        haveI : Old wr g := ⟨hg⟩
        clear hxm
        generalize Lib.compareBytes x.n s = cb at *
        go_wp2_with (go_at_call 57; refine (HFX.out _).mono ?_; rintro e w3 ⟨rfl, hb3⟩; have HB3 := Lib.hid (below_then HB.out hb3); clear hb3)
        go_ret2
        exact ⟨by rw [HQ.out]; rfl, HB3.out⟩
      · have HQ : Hid ((((xs[p]?).map Nm.n) == some s) = false) := by
          show _ = _
          rw [List.getElem?_eq_none (by omega)]
          rfl
        have p1 := no hpn
        have p2 := no (show ¬ (p : Int) < (xs.length : Int) by omega)
        clear hpn
        go_wp2_with fail
        go_ret2
        exact ⟨by rw [HQ.out]; rfl, HB.out⟩
end Go.Proofs.YtljinmfkogmmlaaGreat.Spc
/-
  The walks of layer 20's registry, on: clone. Conditions: rows of at most 2^30.
-/
namespace Go.Proofs.YtljinmfkogmmlaaGreat.Spc
open Go.ChangeShapes Go.WideShapes Go.Deep Go.RowKit Tab Mc Pa Quo
set_option linter.unusedSimpArgs false
set_option linter.unusedVariables false
set_option maxRecDepth 100000
theorem num_flat (zs : List Int) : (zs.flatMap numC).length = zs.length := by
  induction zs with
  | nil => rfl
  | cons a r ih => rw [List.flatMap_cons, List.length_append, ih]; simp [numC]; omega
theorem num_one {zs : List Int} : ∀ u ∈ zs.flatMap numC, u.oneCell' = true := by
  intro u hu
  obtain ⟨x, _, hx⟩ := List.mem_flatMap.1 hu
  simp [numC] at hx
  subst hx
  rfl
def CloneN (xs : List Int) (w : World) (e : Ending) (w' : World) : Prop :=
  ∃ v, e = .returned v ∧ Own w' w.heap.size 1 v xs.length (xs.flatMap numC) ∧ Below w.heap.size w w'
theorem clone_num (xs : List Int) (v : Value) (w : World) (h : Sl w numC 1 v xs) (hl : xs.length ≤ 1099511627776) :
    Calls Tryz.prog 59 #[v] w (CloneN xs w) := by
  obtain ⟨i0, hi0, hz00, hz01, hz02⟩ := info_parts info_num
  have hs := h.src (fun x _ => rfl)
  obtain ⟨A, c, rfl, hc1, hc2, hn, hA⟩ := h
  cases A with
  | none =>
    have h0 := hn rfl
    have h1 : xs.length = 0 := by omega
    obtain rfl := List.eq_nil_of_length_eq_zero h1
    subst h0
    have hnil := @Lib.run_eql_slice_nil Tryz.prog
    go_enter Tryz.func59, Tryz.ntmps59
    go_wp2
    go_ret
    exact ⟨_, rfl, Own.nil _ _ _, Below.refl _ _⟩
  | some a =>
    have Hs := Lib.hid hs
    clear hs hn hA
    have hnil := fun w => Lib.run_eql_slice_nil (P := Tryz.prog) w 23 3 (some a) xs.length c 0 0 Tryz.underlying23
    go_enter Tryz.func59, Tryz.ntmps59
    go_wp2_with (at_builtin; refine wpList_append_src _ rfl (.tmp 5) (.tmp 6) _ rfl w.heap.size 3 i0 _ 1 8 Tryz.underlying23 hi0 hz00 hz01 hz02 rfl (by decide) _ 0 [] rfl (Own.none_ _ _ _ _ _ (by simp)) _ xs.length (xs.flatMap numC) rfl (by rw [num_flat, Nat.mul_one]) (Hs.out.below (by (repeat (first | exact Below.refl _ _ | assumption | with_reducible refine below_alloc ?_ _ | with_reducible refine below_grow ?_ _ | with_reducible refine below_drewN ?_ _ | with_reducible refine below_drew ?_ | with_reducible refine below_setCell ?_ (by first | (dsimp only; omega) | (simp; done) | (simp; omega)) _)))) num_one (by unfold maxLen; omega) (by omega) (by first | (simp; done) | omega | (simp; omega)) ?_; intro v1 w1 hown1 hg1 hat1 hty1; have HTY1 := Lib.hid hty1; clear hty1)
    go_ret
    exact ⟨v1, rfl, by simpa using hown1, below_keeps (by (repeat (first | exact Below.refl _ _ | assumption | with_reducible refine below_alloc ?_ _ | with_reducible refine below_grow ?_ _ | with_reducible refine below_drewN ?_ _ | with_reducible refine below_drew ?_ | with_reducible refine below_setCell ?_ (by first | (dsimp only; omega) | (simp; done) | (simp; omega)) _))) hg1 (fun k hk => hk.2)⟩
theorem own_keeps2 {F : Nat → Prop} {w w' : World} {b0 sz n : Nat} {v : Value} {xs : List Value} (h : Own w b0 sz v n xs) (hk : Keeps F w w') (hF : ∀ k, F k → k < b0) : Own w' b0 sz v n xs := by
  rcases Nat.eq_zero_or_pos n with h0 | h0
  · rcases h.2 with ⟨hn, e | ⟨g, off, e, hg⟩⟩ | ⟨g, off, c, e, g1, g2, _⟩
    · exact ⟨h.1, .inl ⟨hn, .inl e⟩⟩
    · exact ⟨h.1, .inl ⟨hn, .inr ⟨g, off, e, Nat.lt_of_lt_of_le hg hk.size⟩⟩⟩
    · refine h.keeps hk (fun k hk2 _ q => ?_)
      rw [e] at hk2
      cases hk2
      have h3 : g < b0 := hF _ q
      omega
  · obtain ⟨g, off, c, rfl, hg, _⟩ := h.form' h0
    refine h.keeps hk (fun k hk2 _ q => ?_)
    cases hk2
    have h3 : g < b0 := hF _ q
    omega
/-- A spec of its own memory. -/
def CloneP (x : Sp) (w : World) (e : Ending) (w' : World) : Prop :=
  ∃ va vw, e = .returned (spV va vw x) ∧ Own w' w.heap.size 1 va x.a.length (x.a.flatMap numC) ∧ Own w' w.heap.size 1 vw x.w.length (x.w.flatMap strC) ∧ Below w.heap.size w w'
set_option maxHeartbeats 2000000 in
theorem clone_any (va vw : Value) (x : Sp) (w : World) (ha : Sl w numC 1 va x.a) (hw : Sl w strC 1 vw x.w) (hla : x.a.length ≤ 1073741824) (hlw : x.w.length ≤ 1073741824) :
    Calls Tryz.prog 35 #[spV va vw x] w (CloneP x w) := by
  have HA := Lib.hid fun W (h : Below w.heap.size w W) => clone_num x.a va W (ha.below h) (by omega)
  have HW := Lib.hid fun W (h : Below w.heap.size w W) => clone_str x.w vw W (hw.below h) (by omega)
  unfold CloneN at HA
  unfold ClonePost at HW
  obtain ⟨Aa, ca, rfl, _⟩ := ha
  obtain ⟨Aw, cw, rfl, _⟩ := hw
  go_enter Tryz.func35, Tryz.ntmps35
  go_wp2
  have HB := Lib.hid ((BoxN.new w [.slice Aa x.a.length ca, .slice Aw x.w.length cw, .string (B x.g), .string (B x.x), .string (B x.p), .string (B x.s)] 26).below (below_alloc (Below.refl _ _) (.cells #[.slice none 0 0, .slice none 0 0, .string (B []), .string (B []), .string (B []), .string (B [])] 26)))
  have HC := Lib.hid (box_at (w.alloc (.cells #[.slice Aa x.a.length ca, .slice Aw x.w.length cw, .string (B x.g), .string (B x.x), .string (B x.p), .string (B x.s)] 26)) [.slice none 0 0, .slice none 0 0, .string (B []), .string (B []), .string (B []), .string (B [])] 26 (w.heap.size + 1) (by simp) (Below.refl _ _))
  have HBE := Lib.hid (below_alloc (below_alloc (Below.refl w.heap.size w) (.cells #[.slice Aa x.a.length ca, .slice Aw x.w.length cw, .string (B x.g), .string (B x.x), .string (B x.p), .string (B x.s)] 26)) (.cells #[.slice none 0 0, .slice none 0 0, .string (B []), .string (B []), .string (B []), .string (B [])] 26))
  refine wp_region_keyed (fun W => W.cell? ⟨w.heap.size, 0, none⟩ = some (.slice Aa x.a.length ca) ∧ W.cell? ⟨w.heap.size, 1, none⟩ = some (.slice Aw x.w.length cw)) [7, 9] (by kernel_rfl) ?_
  have HB := Lib.hid (HB.out.below (below_drew (Below.refl _ _)))
  have HC := Lib.hid (HC.out.below (below_drew (Below.refl _ _)))
  have HBE := Lib.hid (below_drew HBE.out)
  have HOA : Hid True := Lib.hid trivial
  have HOW : Hid True := Lib.hid trivial
  have HSZ := Lib.hid (Nat.succ_le_of_lt HC.out.lt)
  generalize World.drew _ = D at *
  refine wpAnyK_take2 (i := 0) (some 3) (v := ?v0_1z23) rfl rfl (by kernel_rfl) (by kernel_rfl) (by kernel_rfl) (by kernel_rfl) (fun _ _ _ h => h) (Or.inl ⟨by rfl, ?y0_1z23⟩) (fun _ => ⟨HB.out.c 0 _ rfl, HB.out.c 1 _ rfl⟩) ?r0_1z23
  case y0_1z23 =>
    intro w hSw
    go_simp
    try with_reducible rfl
  try simp only [Act.put, List.setIfInBounds_toArray, List.set_cons_zero, List.set_cons_succ]
  refine wpAnyK_load2 (i := 1) [2, 5, 6, 7, 8, 9] (some 4) (v := ?v1_2z23) rfl rfl (by kernel_rfl) (by kernel_rfl) (by kernel_rfl) (by kernel_rfl) (by kernel_rfl) (fun _ _ _ h => h) (Or.inl ⟨by rfl, ?y1_2z23⟩) (fun _ => ⟨HB.out.c 0 _ rfl, HB.out.c 1 _ rfl⟩) ?r1_2z23
  case y1_2z23 =>
    intro w hSw
    (try dsimp only at hSw)
    go_split_ands
    go_simp
    try with_reducible rfl
  try simp only [Act.put, List.setIfInBounds_toArray, List.set_cons_zero, List.set_cons_succ]
  refine wpAnyK_take2 (i := 3) (some 6) (v := ?v3_3z23) rfl rfl (by kernel_rfl) (by kernel_rfl) (by kernel_rfl) (by kernel_rfl) (fun _ _ _ h => h) (Or.inl ⟨by rfl, ?y3_3z23⟩) (fun _ => ⟨HB.out.c 0 _ rfl, HB.out.c 1 _ rfl⟩) ?r3_3z23
  case y3_3z23 =>
    intro w hSw
    go_simp
    try with_reducible rfl
  try simp only [Act.put, List.setIfInBounds_toArray, List.set_cons_zero, List.set_cons_succ]
  refine wpAnyK_load2 (i := 4) [5, 6, 7, 8, 9] (some 7) (v := ?v4_4z23) rfl rfl (by kernel_rfl) (by kernel_rfl) (by kernel_rfl) (by kernel_rfl) (by kernel_rfl) (fun _ _ _ h => h) (Or.inl ⟨by rfl, ?y4_4z23⟩) (fun _ => ⟨HB.out.c 0 _ rfl, HB.out.c 1 _ rfl⟩) ?r4_4z23
  case y4_4z23 =>
    intro w hSw
    (try dsimp only at hSw)
    go_split_ands
    go_simp
    try with_reducible rfl
  try simp only [Act.put, List.setIfInBounds_toArray, List.set_cons_zero, List.set_cons_succ]
  refine wpAnyK_ready (rs := [2]) (by kernel_rfl) (by simp) ?_
  refine AllReadyK.cons (i := 2) rfl (fun K hK => ?_) ?_
  · go_simp
    refine (HA.out D HBE.out).mono ?_
    rintro e w4 ⟨v1, rfl, ho1, hb1⟩
    dsimp only
    have HB := Lib.hid (HB.out.below hb1)
    have HC := Lib.hid (HC.out.below hb1)
    try have HOW := Lib.hid (HOW.out.below hb1)
    have HOA := Lib.hid (ho1.mono HSZ.out)
    have HSZ := Lib.hid (Nat.le_trans HSZ.out hb1.size)
    have HBE := Lib.hid (below_then HBE.out hb1)
    obtain ⟨A1, c1, rfl, -⟩ := HOA.out.form0
    clear ho1 hb1
    obtain ⟨D, rfl⟩ : ∃ D, D = w4 := ⟨_, rfl⟩
    refine hK.out _ _ (fun _ => ⟨HB.out.c 0 _ rfl, HB.out.c 1 _ rfl⟩) ?_
    clear hK K
    try simp only [Act.put, List.setIfInBounds_toArray, List.set_cons_zero, List.set_cons_succ]
    refine wpAnyK_take2 (i := 6) (some 9) (v := ?v6_5z23) rfl rfl (by kernel_rfl) (by kernel_rfl) (by kernel_rfl) (by kernel_rfl) (fun _ _ _ h => h) (Or.inl ⟨by rfl, ?y6_5z23⟩) (fun _ => ⟨HB.out.c 0 _ rfl, HB.out.c 1 _ rfl⟩) ?r6_5z23
    case y6_5z23 =>
      intro w hSw
      go_simp
      try with_reducible rfl
    try simp only [Act.put, List.setIfInBounds_toArray, List.set_cons_zero, List.set_cons_succ]
    refine wpAnyK_ready (rs := [5]) (by kernel_rfl) (by simp) ?_
    refine AllReadyK.cons (i := 5) rfl (fun K hK => ?_) ?_
    · go_simp
      refine (HW.out D HBE.out).mono ?_
      rintro e w4 ⟨v2, rfl, ho2, hb2⟩
      dsimp only
      have HB := Lib.hid (HB.out.below hb2)
      have HC := Lib.hid (HC.out.below hb2)
      try have HOA := Lib.hid (HOA.out.below hb2)
      have HOW := Lib.hid (ho2.mono HSZ.out)
      have HSZ := Lib.hid (Nat.le_trans HSZ.out hb2.size)
      have HBE := Lib.hid (below_then HBE.out hb2)
      obtain ⟨A2, c2, rfl, -⟩ := HOW.out.form0
      clear ho2 hb2
      obtain ⟨D, rfl⟩ : ∃ D, D = w4 := ⟨_, rfl⟩
      refine hK.out _ _ (fun _ => ⟨HB.out.c 0 _ rfl, HB.out.c 1 _ rfl⟩) ?_
      clear hK K
      try simp only [Act.put, List.setIfInBounds_toArray, List.set_cons_zero, List.set_cons_succ]
      refine wpAnyK_ready (rs := [7]) (by kernel_rfl) (by simp) ?_
      refine AllReadyK.cons (i := 7) rfl (fun K hK => ?_) ?_
      · have k0 := HB.out.c 0 _ rfl
        have f0 := HB.out.f 0
        haveI : Old D w.heap.size := ⟨HB.out.lt⟩
        go_simp
        have hs : Keeps (fun k => k = w.heap.size) D (D.setCell ⟨w.heap.size, 0, none⟩ (.slice A1 x.a.length c1)) := Keeps.setCell (F := fun k => k = w.heap.size) D (a := ⟨w.heap.size, 0, none⟩) rfl _
        have HB := Lib.hid (boxN_set HB.out 0 (by simp) (.slice A1 x.a.length c1))
        have HC := Lib.hid (HC.out.keeps hs (by omega))
        have HOA := Lib.hid (own_keeps2 HOA.out hs (fun k e => by omega))
        have HOW := Lib.hid (own_keeps2 HOW.out hs (fun k e => by omega))
        have HBE := Lib.hid (below_keeps HBE.out hs (fun k e => by omega))
        clear k0 f0 hs HSZ
        generalize World.setCell D _ _ = D at *
        refine hK.out _ _ (fun h => Bool.noConfusion ((show unl _ _ = false by kernel_rfl).symm.trans h)) ?_
        clear hK K
        try simp only [Act.put, List.setIfInBounds_toArray, List.set_cons_zero, List.set_cons_succ]
        refine wpAnyK_take2 (i := 8) (some 10) (v := ?v8_6z23) rfl rfl (by kernel_rfl) (by kernel_rfl) (by kernel_rfl) (by kernel_rfl) (fun _ _ _ h => h) (Or.inl ⟨by rfl, ?y8_6z23⟩) (fun h => Bool.noConfusion ((show unl _ _ = false by kernel_rfl).symm.trans h)) ?r8_6z23
        case y8_6z23 =>
          intro w hSw
          go_simp
          try with_reducible rfl
        try simp only [Act.put, List.setIfInBounds_toArray, List.set_cons_zero, List.set_cons_succ]
        refine wpAnyK_ready (rs := [9]) (by kernel_rfl) (by simp) ?_
        refine AllReadyK.cons (i := 9) rfl (fun K hK => ?_) ?_
        · have k0 := HB.out.c 1 _ rfl
          have f0 := HB.out.f 1
          haveI : Old D w.heap.size := ⟨HB.out.lt⟩
          go_simp
          have hs : Keeps (fun k => k = w.heap.size) D (D.setCell ⟨w.heap.size, 1, none⟩ (.slice A2 x.w.length c2)) := Keeps.setCell (F := fun k => k = w.heap.size) D (a := ⟨w.heap.size, 1, none⟩) rfl _
          have HB := Lib.hid (boxN_set HB.out 1 (by simp) (.slice A2 x.w.length c2))
          have HC := Lib.hid (HC.out.keeps hs (by omega))
          have HOA := Lib.hid (own_keeps2 HOA.out hs (fun k e => by omega))
          have HOW := Lib.hid (own_keeps2 HOW.out hs (fun k e => by omega))
          have HBE := Lib.hid (below_keeps HBE.out hs (fun k e => by omega))
          clear k0 f0 hs
          generalize World.setCell D _ _ = D at *
          refine hK.out _ _ (fun h => Bool.noConfusion ((show unl _ _ = false by kernel_rfl).symm.trans h)) ?_
          clear hK K
          try simp only [Act.put, List.setIfInBounds_toArray, List.set_cons_zero, List.set_cons_succ]
          refine wpAnyK_done (by kernel_rfl) ?_ _
          obtain ⟨⟨b0, b1, b2, b3, b4, b5⟩, -⟩ := box6 HB.out
          obtain ⟨⟨k0, k1, k2, k3, k4, k5⟩, f0, f1, f2, f3, f4, f5⟩ := box6 HC.out
          haveI : Old D w.heap.size := ⟨HB.out.lt⟩
          haveI : Old D (w.heap.size + 1) := ⟨HC.out.lt⟩
          go_wp2
          obtain ⟨hbx, hk⟩ := box_fill6 HC.out (.slice A1 x.a.length c1) (.slice A2 x.w.length c2) (.string (B x.g)) (.string (B x.x)) (.string (B x.p)) (.string (B x.s))
          obtain ⟨⟨r0, r1, r2, r3, r4, r5⟩, -⟩ := box6 hbx
          refine bodyPost_ret (v := spV (.slice A1 x.a.length c1) (.slice A2 x.w.length c2) x) (by simp [results, Tryz.results35, go_sem, r0, r1, r2, r3, r4, r5]) rfl ?_
          exact ⟨_, _, rfl, (own_keeps2 HOA.out hk (fun k e => by omega)).mono (by omega), (own_keeps2 HOW.out hk (fun k e => by omega)).mono (by omega), below_keeps HBE.out hk (fun k e => by omega)⟩
        exact AllReadyK.nil
      exact AllReadyK.nil
    exact AllReadyK.nil
  exact AllReadyK.nil
end Go.Proofs.YtljinmfkogmmlaaGreat.Spc
/-
  The walks of layer 20's registry, on: a registry in memory; New, check, find. Conditions: at most 2^20 names.
-/
namespace Go.Proofs.YtljinmfkogmmlaaGreat.Spc
open Go.ChangeShapes Go.WideShapes Go.Deep Go.RowKit Tab Mc Pa Quo
set_option linter.unusedSimpArgs false
set_option linter.unusedVariables false
set_option maxRecDepth 100000
/-- A row that lies in blocks from A to N, if it holds anything. -/
def RowIn (w : World) (A N : Nat) {α : Type} (en : α → List Value) (v : Value) (xs : List α) : Prop := Sl w en 1 v xs ∧ (0 < xs.length → ∀ k, v.ownBlock = some k → A ≤ k ∧ k < N)
/-- A name's spec, its rows in blocks from A to N, none of them the block g. -/
structure NmAt (w : World) (A N : Nat) (v : Value) (e : Nm) : Prop where
  a : RowIn w A N numC e.va e.x.a
  w : RowIn w A N strC e.vw e.x.w
  da : 0 < e.x.a.length → ∀ k, e.va.ownBlock = some k → v.ownBlock ≠ some k
  dw : 0 < e.x.w.length → ∀ k, e.vw.ownBlock = some k → v.ownBlock ≠ some k
/-- A registry in the block rb, all that is its own in blocks from A to N. -/
structure RegAt (w : World) (A N rb : Nat) (v : Value) (xs : List Nm) : Prop where
  bx : BoxN w rb [v]
  o : Own w A 7 v xs.length (xs.flatMap namC)
  s : ∀ k, v.ownBlock = some k → A ≤ k ∧ k < N
  e : ∀ e ∈ xs, NmAt w A N v e
  r : RisesN xs
  la : rb < A
  an : A ≤ N
  nw : N ≤ w.heap.size
theorem RowIn.block {w w' : World} {A N : Nat} {α : Type} {en : α → List Value} {v : Value} {xs : List α} (h : RowIn w A N en v xs) (hs : w.heap.size ≤ w'.heap.size) (hb : ∀ k, A ≤ k → k < N → w'.heap[k]? = w.heap[k]?) : RowIn w' A N en v xs := by
  obtain ⟨⟨B, c, rfl, h2, h3, h4, h5⟩, h6⟩ := h
  refine ⟨⟨B, c, rfl, h2, h3, h4, fun hp => ?_⟩, h6⟩
  obtain ⟨b, off, rfl, hlt, hc⟩ := h5 hp
  obtain ⟨g1, g2⟩ := h6 hp b rfl
  exact ⟨b, off, rfl, Nat.lt_of_lt_of_le hlt hs, fun k x hk j u hj => (World.cell?_of_block (w := w) (hb b g1 g2)).trans (hc k x hk j u hj)⟩
theorem RowIn.keepsv {F : Nat → Prop} {w w' : World} {A N : Nat} {α : Type} {en : α → List Value} {v : Value} {xs : List α} (h : RowIn w A N en v xs) (hk : Keeps F w w') (hF : 0 < xs.length → ∀ k, v.ownBlock = some k → ¬ F k) : RowIn w' A N en v xs := by
  obtain ⟨⟨B, c, rfl, h2, h3, h4, h5⟩, h6⟩ := h
  refine ⟨⟨B, c, rfl, h2, h3, h4, fun hp => ?_⟩, h6⟩
  obtain ⟨b, off, rfl, hlt, hc⟩ := h5 hp
  exact ⟨b, off, rfl, Nat.lt_of_lt_of_le hlt hk.size, fun k x hk2 j u hj => (World.cell?_of_block (w := w) (hk.block b hlt (hF hp b rfl))).trans (hc k x hk2 j u hj)⟩
theorem RowIn.mono {w : World} {A N A' N' : Nat} {α : Type} {en : α → List Value} {v : Value} {xs : List α} (h : RowIn w A N en v xs) (h1 : A' ≤ A) (h2 : N ≤ N') : RowIn w A' N' en v xs :=
  ⟨h.1, fun hp k e => by have := h.2 hp k e; omega⟩
theorem RegAt.keeps {F : Nat → Prop} {w w' : World} {A N rb : Nat} {v : Value} {xs : List Nm} (h : RegAt w A N rb v xs) (hk : Keeps F w w') (h1 : ¬ F rb) (h2 : ∀ k, A ≤ k → k < N → ¬ F k) : RegAt w' A N rb v xs :=
  ⟨h.bx.keeps hk h1, h.o.keeps hk (fun k e _ => h2 k (h.s k e).1 (h.s k e).2), h.s,
    fun e he => ⟨(h.e e he).a.keepsv hk (fun hp k q => by have := (h.e e he).a.2 hp k q; exact h2 k this.1 this.2), (h.e e he).w.keepsv hk (fun hp k q => by have := (h.e e he).w.2 hp k q; exact h2 k this.1 this.2), (h.e e he).da, (h.e e he).dw⟩,
    h.r, h.la, h.an, Nat.le_trans h.nw hk.size⟩
theorem RegAt.below {w w' : World} {A N rb : Nat} {v : Value} {xs : List Nm} (h : RegAt w A N rb v xs) (hb : Below w.heap.size w w') : RegAt w' A N rb v xs :=
  h.keeps (F := fun _ => False) (Keeps.of_below hb) (fun q => q) (fun _ _ _ q => q)
/-- What is wrong with a name and a spec. -/
def chk20 (n : List UInt8) (x : Sp) : Int := if spMay n = false then 5 else if goodB x = false then 4 else 0
set_option maxHeartbeats 1000000 in
theorem check20_any (n : List UInt8) (va vw : Value) (x : Sp) (w : World) (hn : n.length ≤ 1073741824) (ha : Sl w numC 1 va x.a) (hw : Sl w strC 1 vw x.w) (hla : x.a.length ≤ 1073741824) (hlw : x.w.length ≤ 1073741824) :
    Calls Tryz.prog 33 #[.string (B n), spV va vw x] w fun e w' => e = .returned (.int .i64 (chk20 n x)) ∧ Below w.heap.size w w' := by
  have HM := Lib.hid fun w => spMay_any n w hn
  have HG := Lib.hid fun W (h : Below w.heap.size w W) => good_any va vw x W (ha.below h) (hw.below h) hla hlw
  have HQ := Lib.hid (show chk20 n x = if spMay n = false then 5 else if goodB x = false then 4 else 0 from rfl)
  obtain ⟨Aa, ca, rfl, _⟩ := ha
  obtain ⟨Aw, cw, rfl, _⟩ := hw
  generalize spMay n = m at *
  generalize goodB x = g at *
  cases m with
  | false =>
    rw [if_pos rfl] at HQ
    go_enter Tryz.func33, Tryz.ntmps33
    go_wp2_with (go_at_call 29; refine (HM.out _).mono ?_; rintro e w' ⟨rfl, rfl⟩)
    go_ret
    exact ⟨by rw [HQ.out]; rfl, by (repeat (first | exact Below.refl _ _ | assumption | with_reducible refine below_alloc ?_ _ | with_reducible refine below_grow ?_ _ | with_reducible refine below_drewN ?_ _ | with_reducible refine below_drew ?_ | with_reducible refine below_setCell ?_ (by first | (dsimp only; omega) | (simp; done) | (simp; omega)) _))⟩
  | true =>
    rw [if_neg (by simp)] at HQ
    cases g with
    | false =>
      rw [if_pos rfl] at HQ
      go_enter Tryz.func33, Tryz.ntmps33
      go_wp2_with (first
        | (go_at_call 29; refine (HM.out _).mono ?_; rintro e w' ⟨rfl, rfl⟩)
        | (go_at_call 28; refine (HG.out _ (by (repeat (first | exact Below.refl _ _ | assumption | with_reducible refine below_alloc ?_ _ | with_reducible refine below_grow ?_ _ | with_reducible refine below_drewN ?_ _ | with_reducible refine below_drew ?_ | with_reducible refine below_setCell ?_ (by first | (dsimp only; omega) | (simp; done) | (simp; omega)) _)))).mono ?_; rintro e w3 ⟨rfl, hb⟩; have HB := Lib.hid (below_then (below_alloc (Below.refl w.heap.size w) _) hb); clear hb))
      go_ret
      exact ⟨by rw [HQ.out]; rfl, HB.out⟩
    | true =>
      rw [if_neg (by simp)] at HQ
      go_enter Tryz.func33, Tryz.ntmps33
      go_wp2_with (first
        | (go_at_call 29; refine (HM.out _).mono ?_; rintro e w' ⟨rfl, rfl⟩)
        | (go_at_call 28; refine (HG.out _ (by (repeat (first | exact Below.refl _ _ | assumption | with_reducible refine below_alloc ?_ _ | with_reducible refine below_grow ?_ _ | with_reducible refine below_drewN ?_ _ | with_reducible refine below_drew ?_ | with_reducible refine below_setCell ?_ (by first | (dsimp only; omega) | (simp; done) | (simp; omega)) _)))).mono ?_; rintro e w3 ⟨rfl, hb⟩; have HB := Lib.hid (below_then (below_alloc (Below.refl w.heap.size w) _) hb); clear hb))
      go_ret
      exact ⟨by rw [HQ.out]; rfl, HB.out⟩
def NfindP (xs : List Nm) (s : List UInt8) (w : World) (e : Ending) (w' : World) : Prop := e = .returned (.tuple #[.int .i64 (placeN xs s), .bool (((xs[placeN xs s]?).map Nm.n) == some s)]) ∧ Below w.heap.size w w'
theorem nfind_any (w : World) (A N rb : Nat) (v : Value) (xs : List Nm) (s : List UInt8) (h : RegAt w A N rb v xs) (hx : xs.length ≤ 1048576) : Calls Tryz.prog 34 #[.pointer (some ⟨rb, 0, none⟩), .string (B s)] w (NfindP xs s w) := by
  obtain ⟨A1, c1, rfl, -⟩ := h.o.form0
  have HB := Lib.hid (nbs_any w A A1 c1 xs s h.o hx h.r)
  unfold NbsP at HB
  unfold NfindP
  have c0 := h.bx.c 0 _ rfl
  have hlt := h.bx.lt
  haveI : Old w rb := ⟨hlt⟩
  clear h
  generalize placeN xs s = p at *
  generalize (((xs[p]?).map Nm.n) == some s) = q at *
  go_enter Tryz.func34, Tryz.ntmps34
  go_wp2_with (go_at_call 56; refine HB.out.mono ?_; rintro e w3 ⟨rfl, hb⟩; have HB3 := Lib.hid hb; clear hb)
  go_ret2
  exact ⟨rfl, HB3.out⟩
theorem new20_any (w : World) : Calls Tryz.prog 14 #[] w fun e w' => e = .returned (.pointer (some ⟨w.heap.size, 0, none⟩)) ∧ RegAt w' (w.heap.size + 1) (w.heap.size + 1) w.heap.size (.slice none 0 0) [] ∧ Below w.heap.size w w' := by
  go_enter Tryz.func14, Tryz.ntmps14
  go_wp2
  go_ret
  refine ⟨rfl, ⟨BoxN.new w [.slice none 0 0] _, Own.nil _ _ _, fun k e => (by cases e), fun e he => (by cases he), List.Pairwise.nil, by omega, Nat.le_refl _, by simp⟩, by (repeat (first | exact Below.refl _ _ | assumption | with_reducible refine below_alloc ?_ _ | with_reducible refine below_grow ?_ _ | with_reducible refine below_drewN ?_ _ | with_reducible refine below_drew ?_ | with_reducible refine below_setCell ?_ (by first | (dsimp only; omega) | (simp; done) | (simp; omega)) _))⟩
end Go.Proofs.YtljinmfkogmmlaaGreat.Spc
/-
  The walks of layer 20's registry, on: Get. Conditions: at most 2^20 names; rows of at most 2^30.
-/
namespace Go.Proofs.YtljinmfkogmmlaaGreat.Spc
open Go.ChangeShapes Go.WideShapes Go.Deep Go.RowKit Tab Mc Pa Quo
set_option linter.unusedSimpArgs false
set_option linter.unusedVariables false
set_option maxRecDepth 100000
/-- The spec of a name, and whether there is one. -/
def gotN (xs : List Nm) (s : List UInt8) : Sp × Bool := match xs[placeN xs s]? with
  | some e => if e.n = s then (e.x, true) else (sp0, false)
  | none => (sp0, false)
def GetP (q : Sp × Bool) (w : World) (e : Ending) (w' : World) : Prop :=
  ∃ va vw, e = .returned (.tuple #[spV va vw q.1, .bool q.2]) ∧ Own w' w.heap.size 1 va q.1.a.length (q.1.a.flatMap numC) ∧ Own w' w.heap.size 1 vw q.1.w.length (q.1.w.flatMap strC) ∧ Below w.heap.size w w'
set_option maxHeartbeats 2000000 in
theorem get_any (w : World) (A N rb : Nat) (v : Value) (xs : List Nm) (s : List UInt8) (h : RegAt w A N rb v xs) (hx : xs.length ≤ 1048576) (hl : ∀ e ∈ xs, e.x.a.length ≤ 1073741824 ∧ e.x.w.length ≤ 1073741824) : Calls Tryz.prog 16 #[.pointer (some ⟨rb, 0, none⟩), .string (B s)] w (GetP (gotN xs s) w) := by
  obtain ⟨A1, c1, rfl, -⟩ := h.o.form0
  have HF := Lib.hid fun W (hb : Below w.heap.size w W) => nfind_any W A N rb (.slice A1 xs.length c1) xs s (h.below hb) hx
  unfold NfindP at HF
  have H := Lib.hid h
  have hlt := h.bx.lt
  clear h
  obtain ⟨p, hp⟩ : ∃ p, placeN xs s = p := ⟨_, rfl⟩
  have HG := Lib.hid (show gotN xs s = match xs[p]? with | some e => if e.n = s then (e.x, true) else (sp0, false) | none => (sp0, false) by unfold gotN; rw [hp])
  rw [hp] at HF
  clear hp
  by_cases hf : (((xs[p]?).map Nm.n) == some s) = true
  · rw [hf] at HF
    obtain ⟨e, he, hen⟩ : ∃ e, xs[p]? = some e ∧ e.n = s := by
      cases hq : xs[p]? with
      | none => rw [hq] at hf; cases hf
      | some e =>
        rw [hq] at hf
        exact ⟨e, rfl, by simpa using hf⟩
    rw [he] at HG
    dsimp only at HG
    rw [if_pos hen] at HG
    have hpl : p < xs.length := (List.getElem?_eq_some_iff.1 he).1
    have hmem : e ∈ xs := List.mem_of_getElem? he
    obtain ⟨hla, hlw⟩ := hl e hmem
    have p0 : (0 : Int) ≤ (p : Int) := by omega
    have p1 : (p : Int) < (xs.length : Int) := by omega
    obtain ⟨g, off, rfl⟩ : ∃ g off, A1 = some ⟨g, off, none⟩ := by
      obtain ⟨g, off, c', e', -⟩ := H.out.o.form' (by omega)
      injection e' with e1
      exact ⟨g, off, e1⟩
    have HE := Lib.hid (H.out.e e hmem)
    have HK := Lib.hid he
    have HCL := Lib.hid fun W (hb : Below w.heap.size w W) => clone_any e.va e.vw e.x W (HE.out.a.1.below hb) (HE.out.w.1.below hb) hla hlw
    unfold CloneP at HCL
    clear hf he hen hmem hl
    go_enter Tryz.func16, Tryz.ntmps16
    go_wp2_with (first
      | (go_at_call 34; refine (HF.out _ (by (repeat (first | exact Below.refl _ _ | assumption | with_reducible refine below_alloc ?_ _ | with_reducible refine below_grow ?_ _ | with_reducible refine below_drewN ?_ _ | with_reducible refine below_drew ?_ | with_reducible refine below_setCell ?_ (by first | (dsimp only; omega) | (simp; done) | (simp; omega)) _)))).mono ?_; rintro e2 w2 ⟨rfl, hb⟩; have HB2 := Lib.hid (below_then (below_alloc (Below.refl w.heap.size w) _) hb); have HX := Lib.hid ((BoxN.new w sp0V 26).below hb); have H2 := Lib.hid (H.out.below HB2.out); obtain ⟨k0, k1, k2, k3, k4, k5, k6, hg⟩ := own_nam H2.out.o HK.out; have c0 := H2.out.bx.c 0 _ rfl; haveI : Old w2 g := ⟨hg⟩; haveI : Old w2 rb := ⟨H2.out.bx.lt⟩; clear hb)
      | (go_at_call 35; refine (HCL.out _ HB2.out).mono ?_; rintro e3 w3 ⟨va3, vw3, rfl, ha3, hw3, hb3⟩; have HB3 := Lib.hid (below_then HB2.out hb3); have HX3 := Lib.hid (HX.out.below hb3); have HA3 := Lib.hid (ha3.mono (Nat.succ_le_of_lt HX.out.lt)); have HW3 := Lib.hid (hw3.mono (Nat.succ_le_of_lt HX.out.lt)); obtain ⟨B3, b3, rfl, -⟩ := HA3.out.form0; obtain ⟨D3, d3, rfl, -⟩ := HW3.out.form0; obtain ⟨⟨r0, r1, r2, r3, r4, r5⟩, f0, f1, f2, f3, f4, f5⟩ := box6 HX3.out; haveI : Old w3 w.heap.size := ⟨HX3.out.lt⟩; clear ha3 hw3 hb3))
    obtain ⟨hbx, hk⟩ := box_fill6 HX3.out (.slice B3 e.x.a.length b3) (.slice D3 e.x.w.length d3) (.string (B e.x.g)) (.string (B e.x.x)) (.string (B e.x.p)) (.string (B e.x.s))
    obtain ⟨⟨t0, t1, t2, t3, t4, t5⟩, -⟩ := box6 hbx
    refine bodyPost_ret (v := .tuple #[spV (.slice B3 e.x.a.length b3) (.slice D3 e.x.w.length d3) e.x, .bool true]) (by simp [results, Tryz.results16, go_sem, t0, t1, t2, t3, t4, t5]) rfl ?_
    rw [HG.out]
    exact ⟨_, _, rfl, (own_keeps2 HA3.out hk (fun k e => by omega)).mono (by omega), (own_keeps2 HW3.out hk (fun k e => by omega)).mono (by omega), below_keeps HB3.out hk (fun k e => by omega)⟩
  · have hf2 : (((xs[p]?).map Nm.n) == some s) = false := by
      cases hq : (((xs[p]?).map Nm.n) == some s)
      · rfl
      · exact (hf hq).elim
    rw [hf2] at HF
    have hg2 : gotN xs s = (sp0, false) := by
      rw [HG.out]
      cases hq : xs[p]? with
      | none => rfl
      | some e =>
        dsimp only
        rw [hq] at hf2
        rw [if_neg (fun q => by rw [Option.map_some, q] at hf2; simp at hf2)]
    have HG := Lib.hid hg2
    clear hf hf2 hg2 hl
    go_enter Tryz.func16, Tryz.ntmps16
    go_wp2_with (go_at_call 34; refine (HF.out _ (by (repeat (first | exact Below.refl _ _ | assumption | with_reducible refine below_alloc ?_ _ | with_reducible refine below_grow ?_ _ | with_reducible refine below_drewN ?_ _ | with_reducible refine below_drew ?_ | with_reducible refine below_setCell ?_ (by first | (dsimp only; omega) | (simp; done) | (simp; omega)) _)))).mono ?_; rintro e2 w3 ⟨rfl, hb⟩; have HB3 := Lib.hid (below_then (below_alloc (Below.refl w.heap.size w) _) hb); have HX3 := Lib.hid ((BoxN.new w sp0V 26).below hb); obtain ⟨⟨r0, r1, r2, r3, r4, r5⟩, f0, f1, f2, f3, f4, f5⟩ := box6 HX3.out; haveI : Old w3 w.heap.size := ⟨HX3.out.lt⟩; clear hb)
    obtain ⟨hbx, hk⟩ := box_fill6 HX3.out (.slice none 0 0) (.slice none 0 0) (.string (B [])) (.string (B [])) (.string (B [])) (.string (B []))
    obtain ⟨⟨t0, t1, t2, t3, t4, t5⟩, -⟩ := box6 hbx
    refine bodyPost_ret (v := .tuple #[spV (.slice none 0 0) (.slice none 0 0) sp0, .bool false]) (by simp [results, Tryz.results16, go_sem, t0, t1, t2, t3, t4, t5, sp0]) rfl ?_
    rw [HG.out]
    exact ⟨_, _, rfl, Own.nil _ _ _, Own.nil _ _ _, below_keeps HB3.out hk (fun k e => by omega)⟩
end Go.Proofs.YtljinmfkogmmlaaGreat.Spc
/-
  The walks of layer 20's registry, on: a spec set in its place. Conditions: at most 2^20 names; rows of at most 2^30.
-/
namespace Go.Proofs.YtljinmfkogmmlaaGreat.Spc
open Go.ChangeShapes Go.WideShapes Go.Deep Go.RowKit Tab Mc Pa Quo
set_option linter.unusedSimpArgs false
set_option linter.unusedVariables false
set_option maxRecDepth 100000
theorem flat_set6 (va vw : Value) (x : Sp) : ∀ (xs : List Nm) (p : Nat) (e : Nm), xs[p]? = some e →
    ((((((xs.flatMap namC).set (p * 7 + 1) va).set (p * 7 + 2) vw).set (p * 7 + 3) (.string (B x.g))).set (p * 7 + 4) (.string (B x.x))).set (p * 7 + 5) (.string (B x.p))).set (p * 7 + 6) (.string (B x.s)) = (xs.set p ⟨e.n, va, vw, x⟩).flatMap namC
  | [], p, e, h => by simp at h
  | a :: r, 0, e, h => by
    simp at h
    subst h
    rfl
  | a :: r, p + 1, e, h => by
    have ih := flat_set6 va vw x r p e (by simpa using h)
    have hl : (namC a).length = 7 := rfl
    rw [List.set_cons_succ, List.flatMap_cons, List.flatMap_cons, ← ih]
    have hs : ∀ (ys : List Value) (j : Nat) (u : Value), (namC a ++ ys).set ((p + 1) * 7 + j) u = namC a ++ ys.set (p * 7 + j) u := fun ys j u => by
      rw [List.set_append_right _ _ (by rw [hl]; omega), hl, show (p + 1) * 7 + j - 7 = p * 7 + j by omega]
    rw [hs, hs, hs, hs, hs, hs]
theorem own_set6 {w : World} {b0 g off c p : Nat} {xs : List Nm} {e : Nm} (h : Own w b0 7 (.slice (some ⟨g, off, none⟩) xs.length c) xs.length (xs.flatMap namC)) (hp : xs[p]? = some e) (va vw : Value) (x : Sp) :
    Own ((((((w.setCell ⟨g, off + p * 7 + 1, none⟩ va).setCell ⟨g, off + p * 7 + 1 + 1, none⟩ vw).setCell ⟨g, off + p * 7 + 1 + 2, none⟩ (.string (B x.g))).setCell ⟨g, off + p * 7 + 1 + 3, none⟩ (.string (B x.x))).setCell ⟨g, off + p * 7 + 1 + 4, none⟩ (.string (B x.p))).setCell ⟨g, off + p * 7 + 1 + 5, none⟩ (.string (B x.s))) b0 7 (.slice (some ⟨g, off, none⟩) (xs.set p ⟨e.n, va, vw, x⟩).length c) (xs.set p ⟨e.n, va, vw, x⟩).length ((xs.set p ⟨e.n, va, vw, x⟩).flatMap namC) ∧
    Keeps (fun k => k = g) w ((((((w.setCell ⟨g, off + p * 7 + 1, none⟩ va).setCell ⟨g, off + p * 7 + 1 + 1, none⟩ vw).setCell ⟨g, off + p * 7 + 1 + 2, none⟩ (.string (B x.g))).setCell ⟨g, off + p * 7 + 1 + 3, none⟩ (.string (B x.x))).setCell ⟨g, off + p * 7 + 1 + 4, none⟩ (.string (B x.p))).setCell ⟨g, off + p * 7 + 1 + 5, none⟩ (.string (B x.s))) := by
  have hpl : p < xs.length := (List.getElem?_eq_some_iff.1 hp).1
  have k0 (w : World) (n : Nat) (z : Value) : Keeps (fun k => k = g) w (w.setCell ⟨g, n, none⟩ z) := Keeps.setCell (F := fun k => k = g) w (a := ⟨g, n, none⟩) rfl _
  refine ⟨?_, (((((k0 _ _ _).trans (k0 _ _ _)).trans (k0 _ _ _)).trans (k0 _ _ _)).trans (k0 _ _ _)).trans (k0 _ _ _)⟩
  have h1 := own_set1 h (j := p * 7 + 1) (by omega) va
  have h2 := own_set1 h1 (j := p * 7 + 2) (by omega) vw
  have h3 := own_set1 h2 (j := p * 7 + 3) (by omega) (.string (B x.g))
  have h4 := own_set1 h3 (j := p * 7 + 4) (by omega) (.string (B x.x))
  have h5 := own_set1 h4 (j := p * 7 + 5) (by omega) (.string (B x.p))
  have h6 := own_set1 h5 (j := p * 7 + 6) (by omega) (.string (B x.s))
  rw [flat_set6 va vw x xs p e hp] at h6
  rw [List.length_set]
  simp only [Nat.add_assoc] at h6 ⊢
  exact h6
end Go.Proofs.YtljinmfkogmmlaaGreat.Spc
/-
  The walks of layer 20's registry, on: Set of a name that is there. Conditions: at most 2^20 names; rows of at most 2^30.
-/
namespace Go.Proofs.YtljinmfkogmmlaaGreat.Spc
open Go.ChangeShapes Go.WideShapes Go.Deep Go.RowKit Tab Mc Pa Quo
set_option linter.unusedSimpArgs false
set_option linter.unusedVariables false
set_option maxRecDepth 100000
/-- What Set leaves. -/
def SetP (A N rb : Nat) (v : Value) (er : Int) (ys : List (List UInt8 × Sp)) (w : World) (e : Ending) (w' : World) : Prop :=
  e = .returned (.int .i64 er) ∧ ∃ v' N' zs, RegAt w' A N' rb v' zs ∧ N ≤ N' ∧ zs.map (fun e => (e.n, e.x)) = ys ∧ Keeps (fun k => k = rb ∨ (v.ownBlock = some k ∧ A ≤ k ∧ k < N)) w w' ∧ (v'.ownBlock = v.ownBlock ∨ ∀ k, v'.ownBlock = some k → w.heap.size ≤ k)
theorem rowIn_own {w : World} {b0 : Nat} {α : Type} {en : α → List Value} {v : Value} {xs : List α} (h : Own w b0 1 v xs.length (xs.flatMap en)) (hen : ∀ x ∈ xs, (en x).length = 1) : RowIn w b0 w.heap.size en v xs := by
  refine ⟨h.sl hen rfl, fun hp k e => ?_⟩
  obtain ⟨g, off, c, rfl, hg, hlt, _⟩ := h.form' hp
  cases e
  exact ⟨hg, hlt⟩
theorem reg_set {w w3 : World} {A N rb g off c p : Nat} {xs : List Nm} {e : Nm} {va vw : Value} {x : Sp} (h : RegAt w A N rb (.slice (some ⟨g, off, none⟩) xs.length c) xs) (hb : Below w.heap.size w w3) (hp : xs[p]? = some e)
    (ha : Own w3 w.heap.size 1 va x.a.length (x.a.flatMap numC)) (hw : Own w3 w.heap.size 1 vw x.w.length (x.w.flatMap strC)) {W : World}
    (ho : Own W A 7 (.slice (some ⟨g, off, none⟩) (xs.set p ⟨e.n, va, vw, x⟩).length c) (xs.set p ⟨e.n, va, vw, x⟩).length ((xs.set p ⟨e.n, va, vw, x⟩).flatMap namC)) (hk : Keeps (fun k => k = g) w3 W) :
    RegAt W A W.heap.size rb (.slice (some ⟨g, off, none⟩) xs.length c) (xs.set p ⟨e.n, va, vw, x⟩) := by
  have h3 := h.below hb
  have hg := h.s g rfl
  have hla := h.la
  have hnw := h.nw
  have hs3 := hb.size
  have hsW := hk.size
  have hpl : p < xs.length := (List.getElem?_eq_some_iff.1 hp).1
  rw [List.length_set] at ho
  refine ⟨h3.bx.keeps hk (by omega), by rw [List.length_set]; exact ho, fun k q => by have q2 : g = k := Option.some.inj q; omega, fun y hy => ?_, ?_, hla, by omega, Nat.le_refl _⟩
  · rcases List.mem_or_eq_of_mem_set hy with hy | rfl
    · have hE := h3.e y hy
      refine ⟨(hE.a.keepsv hk (fun q k e1 e2 => hE.da q k e1 (by subst e2; rfl))).mono (Nat.le_refl _) (by omega), (hE.w.keepsv hk (fun q k e1 e2 => hE.dw q k e1 (by subst e2; rfl))).mono (Nat.le_refl _) (by omega), hE.da, hE.dw⟩
    · have ra := rowIn_own ha (fun x _ => rfl)
      have rw_ := rowIn_own hw (fun x _ => rfl)
      refine ⟨(ra.keepsv hk (fun q k e1 e2 => by have := (ra.2 q k e1).1; omega)).mono (by omega) (by omega), (rw_.keepsv hk (fun q k e1 e2 => by have := (rw_.2 q k e1).1; omega)).mono (by omega) (by omega), fun q k e1 e2 => ?_, fun q k e1 e2 => ?_⟩
      · have := (ra.2 q k e1).1
        have q2 : g = k := Option.some.inj e2
        omega
      · have := (rw_.2 q k e1).1
        have q2 : g = k := Option.some.inj e2
        omega
  · have : (xs.set p ⟨e.n, va, vw, x⟩).map nmE = xs.map nmE := by
      rw [List.map_set]
      refine List.ext_getElem? fun i => ?_
      rw [List.getElem?_set]
      split
      · rename_i h1
        subst h1
        rw [List.getElem?_map, hp]
        simp [nmE, hpl]
      · rfl
    show Rises _
    rw [this]
    exact h.r
end Go.Proofs.YtljinmfkogmmlaaGreat.Spc
/-
  The walk of layer 20's registry, on: Set of a name that is there. Conditions: at most 2^20 names; rows of at most 2^30.
-/
namespace Go.Proofs.YtljinmfkogmmlaaGreat.Spc
open Go.ChangeShapes Go.WideShapes Go.Deep Go.RowKit Tab Mc Pa Quo
set_option linter.unusedSimpArgs false
set_option linter.unusedVariables false
set_option maxRecDepth 100000
set_option maxHeartbeats 2000000 in
theorem set_there (w : World) (A N rb : Nat) (v : Value) (xs : List Nm) (s : List UInt8) (va vw : Value) (x : Sp) (e : Nm) (p : Nat) (h : RegAt w A N rb v xs) (hx : xs.length ≤ 1048576) (hs : s.length ≤ 1073741824) (ha : Sl w numC 1 va x.a) (hw : Sl w strC 1 vw x.w) (hla : x.a.length ≤ 1073741824) (hlw : x.w.length ≤ 1073741824)
    (hc : chk20 s x = 0) (hp : placeN xs s = p) (he : xs[p]? = some e) (hen : e.n = s) :
    Calls Tryz.prog 15 #[.pointer (some ⟨rb, 0, none⟩), .string (B s), spV va vw x] w (SetP A N rb v 0 ((xs.map fun e => (e.n, e.x)).set p (s, x)) w) := by
  obtain ⟨A1, c1, rfl, -⟩ := h.o.form0
  have hpl : p < xs.length := (List.getElem?_eq_some_iff.1 he).1
  obtain ⟨g, off, rfl⟩ : ∃ g off, A1 = some ⟨g, off, none⟩ := by
    obtain ⟨g, off, c', e', -⟩ := h.o.form' (by omega)
    injection e' with e1
    exact ⟨g, off, e1⟩
  have HF := Lib.hid fun W (hb : Below w.heap.size w W) => nfind_any W A N rb (.slice (some ⟨g, off, none⟩) xs.length c1) xs s (h.below hb) hx
  unfold NfindP at HF
  rw [hp, he, Option.map_some, hen, beq_self_eq_true] at HF
  have HC := Lib.hid fun W (hb : Below w.heap.size w W) => check20_any s va vw x W hs (ha.below hb) (hw.below hb) hla hlw
  rw [hc] at HC
  have HCL := Lib.hid fun W (hb : Below w.heap.size w W) => clone_any va vw x W (ha.below hb) (hw.below hb) hla hlw
  unfold CloneP at HCL
  have H := Lib.hid h
  have HE := Lib.hid he
  have HEN := Lib.hid hen
  have hgA := h.s g rfl
  have hrA := h.la
  have hNw := h.nw
  obtain ⟨Aa, ca, rfl, _⟩ := ha
  obtain ⟨Aw, cw, rfl, _⟩ := hw
  have p0 : (0 : Int) ≤ (p : Int) := by omega
  have p1 : (p : Int) < (xs.length : Int) := by omega
  clear h he hen hp hc
  go_enter Tryz.func15, Tryz.ntmps15
  go_wp2_with (first
    | (go_at_call 33; refine (HC.out _ (by (repeat (first | exact Below.refl _ _ | assumption | with_reducible refine below_alloc ?_ _ | with_reducible refine below_grow ?_ _ | with_reducible refine below_drewN ?_ _ | with_reducible refine below_drew ?_ | with_reducible refine below_setCell ?_ (by first | (dsimp only; omega) | (simp; done) | (simp; omega)) _)))).mono ?_; rintro e2 w2 ⟨rfl, hb⟩; have HB2 := Lib.hid (below_then (below_alloc (Below.refl w.heap.size w) _) hb); have HX2 := Lib.hid ((BoxN.new w [.slice Aa x.a.length ca, .slice Aw x.w.length cw, .string (B x.g), .string (B x.x), .string (B x.p), .string (B x.s)] 26).below hb); clear hb)
    | (go_at_call 34; refine (HF.out _ HB2.out).mono ?_; rintro e3 w3 ⟨rfl, hb⟩; have HB3 := Lib.hid (below_then HB2.out hb); have HX3 := Lib.hid (HX2.out.below hb); clear hb))
  have HSZ := Lib.hid HX3.out.lt
  have H3 := Lib.hid (H.out.below HB3.out)
  refine wp_region_keyed (fun W => W.cell? ⟨rb, 0, none⟩ = some (.slice (some ⟨g, off, none⟩) xs.length c1) ∧ W.cell? ⟨w.heap.size, 0, none⟩ = some (.slice Aa x.a.length ca) ∧ W.cell? ⟨w.heap.size, 1, none⟩ = some (.slice Aw x.w.length cw) ∧ W.cell? ⟨w.heap.size, 2, none⟩ = some (.string (B x.g)) ∧ W.cell? ⟨w.heap.size, 3, none⟩ = some (.string (B x.x)) ∧ W.cell? ⟨w.heap.size, 4, none⟩ = some (.string (B x.p)) ∧ W.cell? ⟨w.heap.size, 5, none⟩ = some (.string (B x.s))) [9] (by kernel_rfl) ?_
  have HX3 := Lib.hid (HX3.out.below (below_drew (Below.refl _ _)))
  have HB3 := Lib.hid (below_drew HB3.out)
  have H3 := Lib.hid (H.out.below HB3.out)
  generalize World.drew _ = D at *
  refine wpAnyK_take2 (i := 0) (some 23) (v := ?v0_1z24) rfl rfl (by kernel_rfl) (by kernel_rfl) (by kernel_rfl) (by kernel_rfl) (fun _ _ _ h => h) (Or.inl ⟨by rfl, ?y0_1z24⟩) (fun _ => ⟨H3.out.bx.c 0 _ rfl, (box6 HX3.out).1⟩) ?r0_1z24
  case y0_1z24 =>
    intro w hSw
    go_simp
    try with_reducible rfl
  try simp only [Act.put, List.setIfInBounds_toArray, List.set_cons_zero, List.set_cons_succ]
  refine wpAnyK_take2 (i := 1) (some 24) (v := ?v1_2z24) rfl rfl (by kernel_rfl) (by kernel_rfl) (by kernel_rfl) (by kernel_rfl) (fun _ _ _ h => h) (Or.inl ⟨by rfl, ?y1_2z24⟩) (fun _ => ⟨H3.out.bx.c 0 _ rfl, (box6 HX3.out).1⟩) ?r1_2z24
  case y1_2z24 =>
    intro w hSw
    go_simp
    try with_reducible rfl
  try simp only [Act.put, List.setIfInBounds_toArray, List.set_cons_zero, List.set_cons_succ]
  refine wpAnyK_take2 (i := 2) (some 25) (v := ?v2_3z24) rfl rfl (by kernel_rfl) (by kernel_rfl) (by kernel_rfl) (by kernel_rfl) (fun _ _ _ h => h) (Or.inl ⟨by rfl, ?y2_3z24⟩) (fun _ => ⟨H3.out.bx.c 0 _ rfl, (box6 HX3.out).1⟩) ?r2_3z24
  case y2_3z24 =>
    intro w hSw
    go_simp
    try with_reducible rfl
  try simp only [Act.put, List.setIfInBounds_toArray, List.set_cons_zero, List.set_cons_succ]
  refine wpAnyK_load2 (i := 3) [7, 8, 9] (some 26) (v := ?v3_4z24) rfl rfl (by kernel_rfl) (by kernel_rfl) (by kernel_rfl) (by kernel_rfl) (by kernel_rfl) (fun _ _ _ h => h) (Or.inl ⟨by rfl, ?y3_4z24⟩) (fun _ => ⟨H3.out.bx.c 0 _ rfl, (box6 HX3.out).1⟩) ?r3_4z24
  case y3_4z24 =>
    intro w hSw
    (try dsimp only at hSw)
    go_split_ands
    go_simp
    try with_reducible rfl
  try simp only [Act.put, List.setIfInBounds_toArray, List.set_cons_zero, List.set_cons_succ]
  refine wpAnyK_take2 (i := 4) (some 27) (v := ?v4_5z24) rfl rfl (by kernel_rfl) (by kernel_rfl) (by kernel_rfl) (by kernel_rfl) (fun _ _ _ h => h) (Or.inl ⟨by rfl, ?y4_5z24⟩) (fun _ => ⟨H3.out.bx.c 0 _ rfl, (box6 HX3.out).1⟩) ?r4_5z24
  case y4_5z24 =>
    intro w hSw
    go_simp
    try with_reducible rfl
  try simp only [Act.put, List.setIfInBounds_toArray, List.set_cons_zero, List.set_cons_succ]
  refine wpAnyK_load2 (i := 5) [6, 7, 8, 9] (some 28) (v := ?v5_6z24) rfl rfl (by kernel_rfl) (by kernel_rfl) (by kernel_rfl) (by kernel_rfl) (by kernel_rfl) (fun _ _ _ h => h) (Or.inl ⟨by rfl, ?y5_6z24⟩) (fun _ => ⟨H3.out.bx.c 0 _ rfl, (box6 HX3.out).1⟩) ?r5_6z24
  case y5_6z24 =>
    intro w hSw
    (try dsimp only at hSw)
    go_split_ands
    go_simp
    try with_reducible rfl
  try simp only [Act.put, List.setIfInBounds_toArray, List.set_cons_zero, List.set_cons_succ]
  refine wpAnyK_ready (rs := [6]) (by kernel_rfl) (by simp) ?_
  refine AllReadyK.cons (i := 6) rfl (fun K hK => ?_) ?_
  · go_simp
    refine (HCL.out D HB3.out).mono ?_
    rintro e4 w4 ⟨va4, vw4, rfl, ha4, hw4, hb4⟩
    dsimp only
    have HX3 := Lib.hid (HX3.out.below hb4)
    have HA4 := Lib.hid (ha4.mono HB3.out.size)
    have HW4 := Lib.hid (hw4.mono HB3.out.size)
    have HB3 := Lib.hid (below_then HB3.out hb4)
    have H3 := Lib.hid (H.out.below HB3.out)
    obtain ⟨A4, c4, rfl, -⟩ := HA4.out.form0
    obtain ⟨D4, d4, rfl, -⟩ := HW4.out.form0
    clear ha4 hw4 hb4
    obtain ⟨D, rfl⟩ : ∃ D, D = w4 := ⟨_, rfl⟩
    refine hK.out _ _ (fun _ => ⟨H3.out.bx.c 0 _ rfl, (box6 HX3.out).1⟩) ?_
    clear hK K
    try simp only [Act.put, List.setIfInBounds_toArray, List.set_cons_zero, List.set_cons_succ]
    refine wpAnyK_take2 (i := 7) (some 30) (v := ?v7_7z24) rfl rfl (by kernel_rfl) (by kernel_rfl) (by kernel_rfl) (by kernel_rfl) (fun _ _ _ h => h) (Or.inl ⟨by rfl, ?y7_7z24⟩) (fun _ => ⟨H3.out.bx.c 0 _ rfl, (box6 HX3.out).1⟩) ?r7_7z24
    case y7_7z24 =>
      intro w hSw
      go_simp
      try with_reducible rfl
    try simp only [Act.put, List.setIfInBounds_toArray, List.set_cons_zero, List.set_cons_succ]
    refine wpAnyK_take2 (i := 8) (some 31) (v := ?v8_8z24) rfl rfl (by kernel_rfl) (by kernel_rfl) (by kernel_rfl) (by kernel_rfl) (fun _ _ _ h => h) (Or.inl ⟨by rfl, ?y8_8z24⟩) (fun _ => ⟨H3.out.bx.c 0 _ rfl, (box6 HX3.out).1⟩) ?r8_8z24
    case y8_8z24 =>
      intro w hSw
      go_simp
      try with_reducible rfl
    try simp only [Act.put, List.setIfInBounds_toArray, List.set_cons_zero, List.set_cons_succ]
    refine wpAnyK_ready (rs := [9]) (by kernel_rfl) (by simp) ?_
    refine AllReadyK.cons (i := 9) rfl (fun K hK => ?_) ?_
    · obtain ⟨k0, k1, k2, k3, k4, k5, k6, hgD⟩ := own_nam H3.out.o HE.out
      haveI : Old D g := ⟨hgD⟩
      have F : ∀ j u, (namC e)[j]? = some u → D.frozen? ⟨g, off + p * 7 + j, none⟩ = false := fun j u hj => by
        have := (own_get H3.out.o namC_len rfl (by omega) HE.out (j := j) hj).2
        rwa [← Nat.add_assoc] at this
      have f1 := F 1 _ rfl
      have f2 := F 2 _ rfl
      have f3 := F 3 _ rfl
      have f4 := F 4 _ rfl
      have f5 := F 5 _ rfl
      have f6 := F 6 _ rfl
      clear F
      go_simp
      have HS := Lib.hid (own_set6 H3.out.o HE.out (.slice A4 x.a.length c4) (.slice D4 x.w.length d4) x)
      have HR := Lib.hid (reg_set H.out HB3.out HE.out HA4.out HW4.out HS.out.1 HS.out.2)
      have HQ := Lib.hid (And.intro ((Keeps.of_below (F := fun k => k = rb ∨ ((Value.slice (some ⟨g, off, none⟩) xs.length c1).ownBlock = some k ∧ A ≤ k ∧ k < N)) HB3.out).trans (HS.out.2.mono fun k _ q => .inr (by rw [q]; exact ⟨rfl, hgA⟩))) (Nat.le_trans hNw (Nat.le_trans HB3.out.size HS.out.2.size)))
      clear HS k0 k1 k2 k3 k4 k5 k6 f1 f2 f3 f4 f5 f6
      simp only [Nat.add_assoc, Nat.reduceAdd] at HR HQ ⊢
      generalize World.setCell (World.setCell (World.setCell (World.setCell (World.setCell (World.setCell D _ _) _ _) _ _) _ _) _ _) _ _ = D at *
      refine hK.out _ _ (fun h => Bool.noConfusion ((show unl _ _ = false by kernel_rfl).symm.trans h)) ?_
      clear hK K
      try simp only [Act.put, List.setIfInBounds_toArray, List.set_cons_zero, List.set_cons_succ]
      refine wpAnyK_done (by kernel_rfl) ?_ _
      go_wp2
      go_ret
      refine ⟨rfl, _, _, _, HR.out, HQ.out.2, ?_, HQ.out.1, .inl rfl⟩
      rw [List.map_set, HEN.out]
    exact AllReadyK.nil
  exact AllReadyK.nil
end Go.Proofs.YtljinmfkogmmlaaGreat.Spc
/-
  The registry of layer 20 behind a name laid in. Conditions: at most 2^20 names.
-/
namespace Go.Proofs.YtljinmfkogmmlaaGreat.Spc
open Go.ChangeShapes Go.WideShapes Go.Deep Go.RowKit Tab Mc Pa Quo
set_option linter.unusedSimpArgs false
set_option linter.unusedVariables false
set_option maxRecDepth 100000
/-- A row with an entry laid at its place rises. -/
theorem rises_insE {xs : List Ent} (h : Rises xs) (s v : List UInt8) (ht : (((xs[place xs s]?).map Ent.name) == some s) = false) : Rises (xs.take (place xs s) ++ ⟨s, v⟩ :: xs.drop (place xs s)) := by
  have hp := place_le xs s
  refine List.pairwise_append.2 ⟨h.sublist (List.take_sublist _ _), List.pairwise_cons.2 ⟨fun b hb => ?_, h.sublist (List.drop_sublist _ _)⟩, fun a ha b hb => ?_⟩
  · obtain ⟨j, hj, rfl⟩ := List.mem_iff_getElem.1 hb
    rw [List.length_drop] at hj
    rw [List.getElem_drop]
    have h1 : ¬ Lib.compareBytes (xs[place xs s + j]'(by omega)).name s < 0 := fun q => by have := (place_iff h s (by omega)).1 q; omega
    have h2 : Lib.compareBytes (xs[place xs s + j]'(by omega)).name s ≠ 0 := fun q => by
      have e := cmp_zero q
      rcases Nat.eq_zero_or_pos j with hj0 | hj0
      · subst hj0
        rw [List.getElem?_eq_getElem (by omega)] at ht
        simp only [Nat.add_zero] at e
        simp [e] at ht
      · have h3 : Lib.compareBytes (xs[place xs s]'(by omega)).name (xs[place xs s + j]'(by omega)).name < 0 := List.pairwise_iff_getElem.1 h _ _ _ _ (by omega)
        rw [e] at h3
        have := (place_iff h s (t := place xs s) (by omega)).1 h3
        omega
    rw [cmp_anti]
    show - Lib.compareBytes (xs[place xs s + j]'(by omega)).name s < 0
    omega
  · obtain ⟨i, hi, rfl⟩ := List.mem_iff_getElem.1 ha
    rw [List.length_take] at hi
    rw [List.getElem_take]
    have h1 := (place_iff h s (t := i) (by omega)).2 (by omega)
    rcases List.mem_cons.1 hb with rfl | hb
    · exact h1
    · obtain ⟨j, hj, rfl⟩ := List.mem_iff_getElem.1 hb
      rw [List.length_drop] at hj
      rw [List.getElem_drop]
      exact List.pairwise_iff_getElem.1 h _ _ _ _ (by omega)
theorem risesN_ins {xs : List Nm} (h : RisesN xs) (e : Nm) (ht : (((xs[placeN xs e.n]?).map Nm.n) == some e.n) = false) : RisesN (xs.take (placeN xs e.n) ++ e :: xs.drop (placeN xs e.n)) := by
  unfold RisesN
  rw [List.map_append, List.map_cons, List.map_take, List.map_drop]
  refine rises_insE h e.n [] ?_
  show ((((xs.map nmE)[placeN xs e.n]?).map Ent.name) == some e.n) = false
  rw [List.getElem?_map, Option.map_map]
  exact ht
theorem reg_ins {w w3 W : World} {A N rb : Nat} {v v' : Value} {xs : List Nm} {e : Nm} (h : RegAt w A N rb v xs) (hb : Below w.heap.size w w3)
    (ha : Own w3 w.heap.size 1 e.va e.x.a.length (e.x.a.flatMap numC)) (hw : Own w3 w.heap.size 1 e.vw e.x.w.length (e.x.w.flatMap strC)) (ht : (((xs[placeN xs e.n]?).map Nm.n) == some e.n) = false)
    (ho : Own W A 7 v' (xs.take (placeN xs e.n) ++ e :: xs.drop (placeN xs e.n)).length ((xs.take (placeN xs e.n) ++ e :: xs.drop (placeN xs e.n)).flatMap namC)) (hk : Keeps (fun k => v.ownBlock = some k ∧ A ≤ k) w3 W) (hat : v'.ownBlock = v.ownBlock ∨ ∀ k, v'.ownBlock = some k → w3.heap.size ≤ k) :
    RegAt (W.setCell ⟨rb, 0, none⟩ v') A W.heap.size rb v' (xs.take (placeN xs e.n) ++ e :: xs.drop (placeN xs e.n)) ∧ Keeps (fun k => k = rb ∨ (v.ownBlock = some k ∧ A ≤ k ∧ k < N)) w (W.setCell ⟨rb, 0, none⟩ v') := by
  have h3 := h.below hb
  have hla := h.la
  have han := h.an
  have hnw := h.nw
  have hs3 := hb.size
  have hsW := hk.size
  have hs : Keeps (fun k => k = rb) W (W.setCell ⟨rb, 0, none⟩ v') := Keeps.setCell (F := fun k => k = rb) W (a := ⟨rb, 0, none⟩) rfl _
  have hv' : ∀ k, v'.ownBlock = some k → A ≤ k := fun k q => by
    rcases hat with e1 | e1
    · rw [e1] at q; exact (h.s k q).1
    · have := e1 k q; omega
  have hsz := hs.size
  refine ⟨⟨boxN_set (h3.bx.keeps hk (fun q => by have := q.2; omega)) 0 (by simp) v', ho.keeps hs (fun k q _ f => by have := hv' k q; omega), fun k q => ⟨hv' k q, ho.lt k q⟩, fun y hy => ?_, risesN_ins h.r e ht, hla, by omega, hsz⟩, ((Keeps.of_below hb).trans (hk.mono fun k _ q => .inr ⟨q.1, q.2, (h.s k q.1).2⟩)).trans (hs.mono fun k _ q => .inl q)⟩
  have hold : ∀ y ∈ xs, NmAt (W.setCell ⟨rb, 0, none⟩ v') A W.heap.size v' y := fun y hy => by
    have hE := h3.e y hy
    have dd : ∀ (u : Value) (len : Nat), (0 < len → ∀ k, u.ownBlock = some k → A ≤ k ∧ k < N) → (0 < len → ∀ k, u.ownBlock = some k → v.ownBlock ≠ some k) → 0 < len → ∀ k, u.ownBlock = some k → v'.ownBlock ≠ some k := fun u len h1 h2 hp k q f => by
      rcases hat with e1 | e1
      · exact h2 hp k q (e1 ▸ f)
      · have := e1 k f
        have := (h1 hp k q).2
        omega
    refine ⟨((hE.a.keepsv hk (fun q k e1 e2 => hE.da q k e1 e2.1)).keepsv hs (fun q k e1 e2 => by have := (hE.a.2 q k e1).1; omega)).mono (Nat.le_refl _) (by omega), ((hE.w.keepsv hk (fun q k e1 e2 => hE.dw q k e1 e2.1)).keepsv hs (fun q k e1 e2 => by have := (hE.w.2 q k e1).1; omega)).mono (Nat.le_refl _) (by omega), dd _ _ hE.a.2 hE.da, dd _ _ hE.w.2 hE.dw⟩
  have ra := rowIn_own ha (fun x _ => rfl)
  have rw_ := rowIn_own hw (fun x _ => rfl)
  have dn : ∀ (u : Value) (len : Nat), (0 < len → ∀ k, u.ownBlock = some k → w.heap.size ≤ k ∧ k < w3.heap.size) → 0 < len → ∀ k, u.ownBlock = some k → v'.ownBlock ≠ some k := fun u len h1 hp k q f => by
    have h5 := h1 hp k q
    rcases hat with e1 | e1
    · have := h.s k (e1 ▸ f); omega
    · have := e1 k f; omega
  rcases List.mem_append.1 hy with hy | hy
  · exact hold y (List.mem_of_mem_take hy)
  · rcases List.mem_cons.1 hy with rfl | hy
    · refine ⟨((ra.keepsv hk (fun q k e1 e2 => by have := (ra.2 q k e1).1; have := (h.s k e2.1).2; omega)).keepsv hs (fun q k e1 e2 => by have := (ra.2 q k e1).1; omega)).mono (by omega) (by omega), ((rw_.keepsv hk (fun q k e1 e2 => by have := (rw_.2 q k e1).1; have := (h.s k e2.1).2; omega)).keepsv hs (fun q k e1 e2 => by have := (rw_.2 q k e1).1; omega)).mono (by omega) (by omega), dn _ _ ra.2, dn _ _ rw_.2⟩
    · exact hold y (List.mem_of_mem_drop hy)
end Go.Proofs.YtljinmfkogmmlaaGreat.Spc
/-
  The walk of layer 20's registry, on: Set of a name that is not there. Conditions: fewer than 10000 names; rows of at most 2^30.
-/
namespace Go.Proofs.YtljinmfkogmmlaaGreat.Spc
open Go.ChangeShapes Go.WideShapes Go.Deep Go.RowKit Tab Mc Pa Quo
set_option linter.unusedSimpArgs false
set_option linter.unusedVariables false
set_option maxRecDepth 100000
theorem reg_insP {w w3 W : World} {A N rb p : Nat} {v v' : Value} {xs : List Nm} {e : Nm} (h : RegAt w A N rb v xs) (hb : Below w.heap.size w w3)
    (ha : Own w3 w.heap.size 1 e.va e.x.a.length (e.x.a.flatMap numC)) (hw : Own w3 w.heap.size 1 e.vw e.x.w.length (e.x.w.flatMap strC)) (ht : (((xs[placeN xs e.n]?).map Nm.n) == some e.n) = false) (hp : placeN xs e.n = p)
    (ho : Own W A 7 v' (xs.take p ++ e :: xs.drop p).length ((xs.take p ++ e :: xs.drop p).flatMap namC)) (hk : Keeps (fun k => v.ownBlock = some k ∧ A ≤ k) w3 W) (hat : v'.ownBlock = v.ownBlock ∨ ∀ k, v'.ownBlock = some k → w3.heap.size ≤ k) :
    RegAt (W.setCell ⟨rb, 0, none⟩ v') A W.heap.size rb v' (xs.take p ++ e :: xs.drop p) ∧ Keeps (fun k => k = rb ∨ (v.ownBlock = some k ∧ A ≤ k ∧ k < N)) w (W.setCell ⟨rb, 0, none⟩ v') := by
  subst hp
  exact reg_ins h hb ha hw ht ho hk hat
set_option maxHeartbeats 2000000 in
theorem set_new20 (w : World) (A N rb : Nat) (v : Value) (xs : List Nm) (s : List UInt8) (va vw : Value) (x : Sp) (p : Nat) (h : RegAt w A N rb v xs) (hx : xs.length < 10000) (hs : s.length ≤ 1073741824) (ha : Sl w numC 1 va x.a) (hw : Sl w strC 1 vw x.w) (hla : x.a.length ≤ 1073741824) (hlw : x.w.length ≤ 1073741824)
    (hc : chk20 s x = 0) (hp : placeN xs s = p) (he : (((xs[p]?).map Nm.n) == some s) = false) (hone : ∀ e ∈ xs, ∀ u ∈ namC e, u.oneCell' = true) :
    Calls Tryz.prog 15 #[.pointer (some ⟨rb, 0, none⟩), .string (B s), spV va vw x] w (SetP A N rb v 0 ((xs.map fun e => (e.n, e.x)).take p ++ (s, x) :: (xs.map fun e => (e.n, e.x)).drop p) w) := by
  obtain ⟨A1, c1, rfl, -⟩ := h.o.form0
  have hpl : p ≤ xs.length := hp ▸ placeN_le xs s
  have HF := Lib.hid fun W (hb : Below w.heap.size w W) => nfind_any W A N rb (.slice A1 xs.length c1) xs s (h.below hb) (by omega)
  unfold NfindP at HF
  rw [hp, he] at HF
  have HC := Lib.hid fun W (hb : Below w.heap.size w W) => check20_any s va vw x W hs (ha.below hb) (hw.below hb) hla hlw
  rw [hc] at HC
  have HCL := Lib.hid fun W (hb : Below w.heap.size w W) => clone_any va vw x W (ha.below hb) (hw.below hb) hla hlw
  unfold CloneP at HCL
  have H := Lib.hid h
  have HE := Lib.hid (show (((xs[placeN xs s]?).map Nm.n) == some s) = false by rw [hp]; exact he)
  have HP := Lib.hid hp
  have HONE := Lib.hid hone
  have hrA := h.la
  have hAN := h.an
  have hNw := h.nw
  obtain ⟨Aa, ca, rfl, _⟩ := ha
  obtain ⟨Aw, cw, rfl, _⟩ := hw
  have n1 : ¬ (10000 : Int) ≤ (xs.length : Int) := by omega
  clear h he hp hc hone
  go_enter Tryz.func15, Tryz.ntmps15
  go_wp2_with (first
    | (go_at_call 33; refine (HC.out _ (by (repeat (first | exact Below.refl _ _ | assumption | with_reducible refine below_alloc ?_ _ | with_reducible refine below_grow ?_ _ | with_reducible refine below_drewN ?_ _ | with_reducible refine below_drew ?_ | with_reducible refine below_setCell ?_ (by first | (dsimp only; omega) | (simp; done) | (simp; omega)) _)))).mono ?_; rintro e2 w2 ⟨rfl, hb⟩; have HB2 := Lib.hid (below_then (below_alloc (Below.refl w.heap.size w) _) hb); have HX2 := Lib.hid ((BoxN.new w [.slice Aa x.a.length ca, .slice Aw x.w.length cw, .string (B x.g), .string (B x.x), .string (B x.p), .string (B x.s)] 26).below hb); clear hb)
    | (go_at_call 34; refine (HF.out _ HB2.out).mono ?_; rintro e3 w3 ⟨rfl, hb⟩; have HB3 := Lib.hid (below_then HB2.out hb); have HX3 := Lib.hid (HX2.out.below hb); have H3 := Lib.hid (H.out.below HB3.out); have q0 := H3.out.bx.c 0 _ rfl; haveI : Old w3 rb := ⟨H3.out.bx.lt⟩; clear hb))
  have HSZ := Lib.hid HX3.out.lt
  have H3 := Lib.hid (H.out.below HB3.out)
  refine wp_region_keyed (fun W => W.cell? ⟨rb, 0, none⟩ = some (.slice A1 xs.length c1) ∧ W.cell? ⟨w.heap.size, 0, none⟩ = some (.slice Aa x.a.length ca) ∧ W.cell? ⟨w.heap.size, 1, none⟩ = some (.slice Aw x.w.length cw) ∧ W.cell? ⟨w.heap.size, 2, none⟩ = some (.string (B x.g)) ∧ W.cell? ⟨w.heap.size, 3, none⟩ = some (.string (B x.x)) ∧ W.cell? ⟨w.heap.size, 4, none⟩ = some (.string (B x.p)) ∧ W.cell? ⟨w.heap.size, 5, none⟩ = some (.string (B x.s))) [11] (by kernel_rfl) ?_
  have HX3 := Lib.hid (HX3.out.below (below_drew (Below.refl _ _)))
  have HB3 := Lib.hid (below_drew HB3.out)
  have H3 := Lib.hid (H.out.below HB3.out)
  generalize World.drew _ = D at *
  refine wpAnyK_take2 (i := 0) (some 38) (v := ?v0_1z25) rfl rfl (by kernel_rfl) (by kernel_rfl) (by kernel_rfl) (by kernel_rfl) (fun _ _ _ h => h) (Or.inl ⟨by rfl, ?y0_1z25⟩) (fun _ => ⟨H3.out.bx.c 0 _ rfl, (box6 HX3.out).1⟩) ?r0_1z25
  case y0_1z25 =>
    intro w hSw
    go_simp
    try with_reducible rfl
  try simp only [Act.put, List.setIfInBounds_toArray, List.set_cons_zero, List.set_cons_succ]
  refine wpAnyK_take2 (i := 1) (some 39) (v := ?v1_2z25) rfl rfl (by kernel_rfl) (by kernel_rfl) (by kernel_rfl) (by kernel_rfl) (fun _ _ _ h => h) (Or.inl ⟨by rfl, ?y1_2z25⟩) (fun _ => ⟨H3.out.bx.c 0 _ rfl, (box6 HX3.out).1⟩) ?r1_2z25
  case y1_2z25 =>
    intro w hSw
    go_simp
    try with_reducible rfl
  try simp only [Act.put, List.setIfInBounds_toArray, List.set_cons_zero, List.set_cons_succ]
  refine wpAnyK_take2 (i := 2) (some 40) (v := ?v2_3z25) rfl rfl (by kernel_rfl) (by kernel_rfl) (by kernel_rfl) (by kernel_rfl) (fun _ _ _ h => h) (Or.inl ⟨by rfl, ?y2_3z25⟩) (fun _ => ⟨H3.out.bx.c 0 _ rfl, (box6 HX3.out).1⟩) ?r2_3z25
  case y2_3z25 =>
    intro w hSw
    go_simp
    try with_reducible rfl
  try simp only [Act.put, List.setIfInBounds_toArray, List.set_cons_zero, List.set_cons_succ]
  refine wpAnyK_take2 (i := 3) (some 41) (v := ?v3_4z25) rfl rfl (by kernel_rfl) (by kernel_rfl) (by kernel_rfl) (by kernel_rfl) (fun _ _ _ h => h) (Or.inl ⟨by rfl, ?y3_4z25⟩) (fun _ => ⟨H3.out.bx.c 0 _ rfl, (box6 HX3.out).1⟩) ?r3_4z25
  case y3_4z25 =>
    intro w hSw
    go_simp
    try with_reducible rfl
  try simp only [Act.put, List.setIfInBounds_toArray, List.set_cons_zero, List.set_cons_succ]
  refine wpAnyK_load2 (i := 4) [11, 12, 13, 14] (some 42) (v := ?v4_5z25) rfl rfl (by kernel_rfl) (by kernel_rfl) (by kernel_rfl) (by kernel_rfl) (by kernel_rfl) (fun _ _ _ h => h) (Or.inl ⟨by rfl, ?y4_5z25⟩) (fun _ => ⟨H3.out.bx.c 0 _ rfl, (box6 HX3.out).1⟩) ?r4_5z25
  case y4_5z25 =>
    intro w hSw
    (try dsimp only at hSw)
    go_split_ands
    go_simp
    try with_reducible rfl
  try simp only [Act.put, List.setIfInBounds_toArray, List.set_cons_zero, List.set_cons_succ]
  refine wpAnyK_take2 (i := 5) (some 43) (v := ?v5_6z25) rfl rfl (by kernel_rfl) (by kernel_rfl) (by kernel_rfl) (by kernel_rfl) (fun _ _ _ h => h) (Or.inl ⟨by rfl, ?y5_6z25⟩) (fun _ => ⟨H3.out.bx.c 0 _ rfl, (box6 HX3.out).1⟩) ?r5_6z25
  case y5_6z25 =>
    intro w hSw
    go_simp
    try with_reducible rfl
  try simp only [Act.put, List.setIfInBounds_toArray, List.set_cons_zero, List.set_cons_succ]
  refine wpAnyK_take2 (i := 6) (some 44) (v := ?v6_7z25) rfl rfl (by kernel_rfl) (by kernel_rfl) (by kernel_rfl) (by kernel_rfl) (fun _ _ _ h => h) (Or.inl ⟨by rfl, ?y6_7z25⟩) (fun _ => ⟨H3.out.bx.c 0 _ rfl, (box6 HX3.out).1⟩) ?r6_7z25
  case y6_7z25 =>
    intro w hSw
    go_simp
    try with_reducible rfl
  try simp only [Act.put, List.setIfInBounds_toArray, List.set_cons_zero, List.set_cons_succ]
  refine wpAnyK_load2 (i := 7) [8, 9, 10, 11, 12, 13, 14] (some 45) (v := ?v7_8z25) rfl rfl (by kernel_rfl) (by kernel_rfl) (by kernel_rfl) (by kernel_rfl) (by kernel_rfl) (fun _ _ _ h => h) (Or.inl ⟨by rfl, ?y7_8z25⟩) (fun _ => ⟨H3.out.bx.c 0 _ rfl, (box6 HX3.out).1⟩) ?r7_8z25
  case y7_8z25 =>
    intro w hSw
    (try dsimp only at hSw)
    go_split_ands
    go_simp
    try with_reducible rfl
  try simp only [Act.put, List.setIfInBounds_toArray, List.set_cons_zero, List.set_cons_succ]
  refine wpAnyK_ready (rs := [8]) (by kernel_rfl) (by simp) ?_
  refine AllReadyK.cons (i := 8) rfl (fun K hK => ?_) ?_
  · go_simp
    refine (HCL.out D HB3.out).mono ?_
    rintro e4 w4 ⟨va4, vw4, rfl, ha4, hw4, hb4⟩
    dsimp only
    have HX3 := Lib.hid (HX3.out.below hb4)
    have HA4 := Lib.hid (ha4.mono HB3.out.size)
    have HW4 := Lib.hid (hw4.mono HB3.out.size)
    have HB3 := Lib.hid (below_then HB3.out hb4)
    have H3 := Lib.hid (H.out.below HB3.out)
    obtain ⟨A4, c4, rfl, -⟩ := HA4.out.form0
    obtain ⟨D4, d4, rfl, -⟩ := HW4.out.form0
    clear ha4 hw4 hb4
    obtain ⟨D, rfl⟩ : ∃ D, D = w4 := ⟨_, rfl⟩
    refine hK.out _ _ (fun _ => ⟨H3.out.bx.c 0 _ rfl, (box6 HX3.out).1⟩) ?_
    clear hK K
    try simp only [Act.put, List.setIfInBounds_toArray, List.set_cons_zero, List.set_cons_succ]
    refine wpAnyK_take2 (i := 9) (some 47) (v := ?v9_9z25) rfl rfl (by kernel_rfl) (by kernel_rfl) (by kernel_rfl) (by kernel_rfl) (fun _ _ _ h => h) (Or.inl ⟨by rfl, ?y9_9z25⟩) (fun _ => ⟨H3.out.bx.c 0 _ rfl, (box6 HX3.out).1⟩) ?r9_9z25
    case y9_9z25 =>
      intro w hSw
      go_simp
      try with_reducible rfl
    try simp only [Act.put, List.setIfInBounds_toArray, List.set_cons_zero, List.set_cons_succ]
    refine wpAnyK_ready (rs := [10]) (by kernel_rfl) (by simp) ?_
    refine AllReadyK.cons (i := 10) rfl (fun K hK => ?_) ?_
    · go_simp
      have HNE := Lib.hid (show (Value.slice A1 xs.length c1).ownBlock ≠ some D.heap.size from fun q => by have := H3.out.o.lt _ q; omega)
      have HV := Lib.hid (heap_alloc_new D (.cells #[.string (B s), .slice A4 x.a.length c4, .slice D4 x.w.length d4, .string (B x.g), .string (B x.x), .string (B x.p), .string (B x.s)] 43))
      have hal := below_alloc (Below.refl D.heap.size D) (.cells #[.string (B s), .slice A4 x.a.length c4, .slice D4 x.w.length d4, .string (B x.g), .string (B x.x), .string (B x.p), .string (B x.s)] 43)
      have HX3 := Lib.hid (HX3.out.below hal)
      have HA4 := Lib.hid (HA4.out.below hal)
      have HW4 := Lib.hid (HW4.out.below hal)
      have HB3 := Lib.hid (below_then HB3.out hal)
      have H3 := Lib.hid (H.out.below HB3.out)
      clear hal
      generalize D.heap.size = vb at *
      generalize D.alloc (.cells #[.string (B s), .slice A4 x.a.length c4, .slice D4 x.w.length d4, .string (B x.g), .string (B x.x), .string (B x.p), .string (B x.s)] 43) = D at *
      refine hK.out _ _ (fun _ => ⟨H3.out.bx.c 0 _ rfl, (box6 HX3.out).1⟩) ?_
      clear hK K
      try simp only [Act.put, List.setIfInBounds_toArray, List.set_cons_zero, List.set_cons_succ]
      refine wpAnyK_ready (rs := [11]) (by kernel_rfl) (by simp) ?_
      refine AllReadyK.cons (i := 11) rfl (fun K hK => ?_) ?_
      · go_simp
        have hone2 : ∀ e ∈ (⟨s, .slice A4 x.a.length c4, .slice D4 x.w.length d4, x⟩ : Nm) :: xs, ∀ u ∈ namC e, u.oneCell' = true := fun e he => by
          rcases List.mem_cons.1 he with rfl | he
          · intro u hu
            simp [namC] at hu
            rcases hu with rfl | rfl | rfl | rfl | rfl | rfl | rfl <;> rfl
          · exact HONE.out e he
        refine (InsN.insert_any D A vb p (.slice A1 xs.length c1) xs ⟨s, .slice A4 x.a.length c4, .slice D4 x.w.length d4, x⟩ hone2 H3.out.o HV.out HNE.out (by omega) hpl (by have := HB3.out.size; omega)).mono ?_
        rintro e5 w5 ⟨v5, rfl, ho5, hk5, hat5⟩
        obtain ⟨A5, c5, rfl, -⟩ := ho5.form0
        dsimp only
        have HR := Lib.hid (reg_insP H.out HB3.out HA4.out HW4.out HE.out HP.out ho5 hk5 hat5)
        have q1 := (H3.out.bx.keeps hk5 (fun q => by have := q.2; omega))
        have HQ1 := Lib.hid q1
        have HZ := Lib.hid (Nat.le_trans hNw (Nat.le_trans HB3.out.size hk5.size))
        have HAT := Lib.hid (show _ ∨ ∀ k, _ → w.heap.size ≤ k from hat5.imp id fun e k q => Nat.le_trans HB3.out.size (e k q))
        clear q1 ho5 hk5 hat5 hone2
        have HYS := Lib.hid (show (xs.take p ++ (⟨s, .slice A4 x.a.length c4, .slice D4 x.w.length d4, x⟩ : Nm) :: xs.drop p).map (fun e => (e.n, e.x)) = (xs.map fun e => (e.n, e.x)).take p ++ (s, x) :: (xs.map fun e => (e.n, e.x)).drop p by rw [List.map_append, List.map_cons, List.map_take, List.map_drop])
        generalize xs.take p ++ (⟨s, .slice A4 x.a.length c4, .slice D4 x.w.length d4, x⟩ : Nm) :: xs.drop p = ys at *
        obtain ⟨D, rfl⟩ : ∃ D, D = w5 := ⟨_, rfl⟩
        refine hK.out _ _ (fun h => Bool.noConfusion ((show unl _ _ = false by kernel_rfl).symm.trans h)) ?_
        clear hK K
        try simp only [Act.put, List.setIfInBounds_toArray, List.set_cons_zero, List.set_cons_succ]
        refine wpAnyK_take2 (i := 12) (some 50) (v := ?v12_10z25) rfl rfl (by kernel_rfl) (by kernel_rfl) (by kernel_rfl) (by kernel_rfl) (fun _ _ _ h => h) (Or.inl ⟨by rfl, ?y12_10z25⟩) (fun h => Bool.noConfusion ((show unl _ _ = false by kernel_rfl).symm.trans h)) ?r12_10z25
        case y12_10z25 =>
          intro w hSw
          go_simp
          try with_reducible rfl
        try simp only [Act.put, List.setIfInBounds_toArray, List.set_cons_zero, List.set_cons_succ]
        refine wpAnyK_take2 (i := 13) (some 51) (v := ?v13_11z25) rfl rfl (by kernel_rfl) (by kernel_rfl) (by kernel_rfl) (by kernel_rfl) (fun _ _ _ h => h) (Or.inl ⟨by rfl, ?y13_11z25⟩) (fun h => Bool.noConfusion ((show unl _ _ = false by kernel_rfl).symm.trans h)) ?r13_11z25
        case y13_11z25 =>
          intro w hSw
          go_simp
          try with_reducible rfl
        try simp only [Act.put, List.setIfInBounds_toArray, List.set_cons_zero, List.set_cons_succ]
        refine wpAnyK_ready (rs := [14]) (by kernel_rfl) (by simp) ?_
        refine AllReadyK.cons (i := 14) rfl (fun K hK => ?_) ?_
        · have q0 := HQ1.out.c 0 _ rfl
          have f0 := HQ1.out.f 0
          haveI : Old D rb := ⟨HQ1.out.lt⟩
          go_simp
          clear q0 f0
          generalize World.setCell D _ _ = D at *
          refine hK.out _ _ (fun h => Bool.noConfusion ((show unl _ _ = false by kernel_rfl).symm.trans h)) ?_
          clear hK K
          try simp only [Act.put, List.setIfInBounds_toArray, List.set_cons_zero, List.set_cons_succ]
          refine wpAnyK_done (by kernel_rfl) ?_ _
          go_wp2
          go_ret
          exact ⟨rfl, _, _, _, HR.out.1, HZ.out, HYS.out, HR.out.2, HAT.out⟩
        exact AllReadyK.nil
      exact AllReadyK.nil
    exact AllReadyK.nil
  exact AllReadyK.nil
end Go.Proofs.YtljinmfkogmmlaaGreat.Spc
/-
  Rows of names with what belongs to them, in order and out of order: setting, taking away, looking up. No program in sight.
-/
namespace Go.Proofs.YtljinmfkogmmlaaGreat.Spc
open Go.Lib Tab
set_option linter.unusedSimpArgs false
set_option linter.unusedVariables false
section
variable {α : Type}
def keyE (e : List UInt8 × α) : Ent := ⟨e.1, []⟩
def RisesY (l : List (List UInt8 × α)) : Prop := Rises (l.map keyE)
def placeY (l : List (List UInt8 × α)) (s : List UInt8) : Nat := place (l.map keyE) s
def thereY (l : List (List UInt8 × α)) (s : List UInt8) : Bool := ((l[placeY l s]?).map (·.1)) == some s
/-- The row with a name set. -/
def setY (l : List (List UInt8 × α)) (s : List UInt8) (x : α) : List (List UInt8 × α) := if thereY l s = true then l.set (placeY l s) (s, x) else l.take (placeY l s) ++ (s, x) :: l.drop (placeY l s)
/-- The row without a name. -/
def delY (l : List (List UInt8 × α)) (s : List UInt8) : List (List UInt8 × α) := if thereY l s = true then l.eraseIdx (placeY l s) else l
def lookY (l : List (List UInt8 × α)) (s : List UInt8) : Option α := (l.find? fun e => e.1 == s).map (·.2)
/-- All but those of a name. -/
def notY (l : List (List UInt8 × α)) (s : List UInt8) : List (List UInt8 × α) := l.filter fun e => !(e.1 == s)
def NeY (l : List (List UInt8 × α)) : Prop := l.Pairwise fun a b => a.1 ≠ b.1
theorem risesY_iff (l : List (List UInt8 × α)) : RisesY l ↔ l.Pairwise fun a b => compareBytes a.1 b.1 < 0 := by
  unfold RisesY Rises
  rw [List.pairwise_map]
  rfl
theorem rises_ne {l : List (List UInt8 × α)} (h : RisesY l) : NeY l :=
  ((risesY_iff l).1 h).imp fun {a b} q e => by rw [e, cmp_self] at q; omega
theorem placeY_iff {l : List (List UInt8 × α)} (h : RisesY l) (s : List UInt8) {t : Nat} (ht : t < l.length) : compareBytes l[t].1 s < 0 ↔ t < placeY l s := by
  have := place_iff h s (t := t) (by rw [List.length_map]; exact ht)
  rwa [List.getElem_map] at this
theorem not_thereY {l : List (List UInt8 × α)} (h : RisesY l) {s : List UInt8} (ht : thereY l s = false) : ∀ e ∈ l, e.1 ≠ s := by
  intro e he hq
  obtain ⟨i, hi, rfl⟩ := List.mem_iff_getElem.1 he
  have h1 : ¬ i < placeY l s := fun q => by
    have := (placeY_iff h s hi).2 q
    rw [hq, cmp_self] at this
    omega
  have hpl : placeY l s < l.length := by omega
  rcases Nat.eq_or_lt_of_not_lt h1 with h2 | h2
  · unfold thereY at ht
    rw [List.getElem?_eq_getElem hpl] at ht
    have : l[placeY l s].1 = s := by
      have e2 : l[placeY l s] = l[i] := by congr 1; omega
      rw [e2, hq]
    simp [this] at ht
  · have h3 := List.pairwise_iff_getElem.1 ((risesY_iff l).1 h) _ _ hpl hi h2
    rw [hq] at h3
    have := (placeY_iff h s hpl).1 h3
    omega
theorem thereY_split {l : List (List UInt8 × α)} {s : List UInt8} (ht : thereY l s = true) : ∃ y, ∃ h : placeY l s < l.length, l[placeY l s] = (s, y) ∧ l = l.take (placeY l s) ++ (s, y) :: l.drop (placeY l s + 1) := by
  unfold thereY at ht
  rcases Nat.lt_or_ge (placeY l s) l.length with hp | hp
  · rw [List.getElem?_eq_getElem hp, Option.map_some] at ht
    have h1 : l[placeY l s].1 = s := by simpa using ht
    have : l[placeY l s] = (s, l[placeY l s].2) := Prod.ext h1 rfl
    refine ⟨l[placeY l s].2, hp, this, ?_⟩
    rw [← this, List.getElem_cons_drop, List.take_append_drop]
  · rw [List.getElem?_eq_none hp] at ht
    cases ht
theorem filter_all {β : Type} {p : β → Bool} {l : List β} (h : ∀ e ∈ l, p e = true) : l.filter p = l := List.filter_eq_self.2 h
theorem notY_split {l a b : List (List UInt8 × α)} {s : List UInt8} {y : α} (h : NeY l) (hl : l = a ++ (s, y) :: b) : notY l s = a ++ b := by
  subst hl
  unfold NeY at h
  rw [List.pairwise_append, List.pairwise_cons] at h
  unfold notY
  rw [List.filter_append, List.filter_cons]
  rw [if_neg (by simp)]
  rw [filter_all (l := a) (fun e he => by have := h.2.2 e he (s, y) (List.mem_cons_self ..); simpa using this), filter_all (l := b) (fun e he => by have := h.2.1.1 e he; simpa using fun q => this q.symm)]
theorem notY_none {l : List (List UInt8 × α)} {s : List UInt8} (h : ∀ e ∈ l, e.1 ≠ s) : notY l s = l := filter_all fun e he => by simpa using h e he
theorem set_perm {l : List (List UInt8 × α)} (h : RisesY l) (s : List UInt8) (x : α) : (setY l s x).Perm (notY l s ++ [(s, x)]) := by
  unfold setY
  cases ht : thereY l s with
  | true =>
    obtain ⟨y, hp, hy, hl⟩ := thereY_split ht
    rw [if_pos rfl, notY_split (rises_ne h) hl, List.set_eq_take_append_cons_drop, if_pos hp]
    exact List.perm_middle.trans ((List.perm_append_comm (l₁ := [(s, x)])))
  | false =>
    rw [if_neg (by simp), notY_none (not_thereY h ht)]
    have := (List.perm_middle (a := (s, x)) (l₁ := l.take (placeY l s)) (l₂ := l.drop (placeY l s))).trans (List.perm_append_comm (l₁ := [(s, x)]) (l₂ := l.take (placeY l s) ++ l.drop (placeY l s)))
    rwa [List.take_append_drop] at this
theorem del_perm {l : List (List UInt8 × α)} (h : RisesY l) (s : List UInt8) : delY l s = notY l s := by
  unfold delY
  cases ht : thereY l s with
  | true =>
    obtain ⟨y, hp, hy, hl⟩ := thereY_split ht
    rw [if_pos rfl, notY_split (rises_ne h) hl, List.eraseIdx_eq_take_drop_succ]
  | false => rw [if_neg (by simp), notY_none (not_thereY h ht)]
theorem look_mem {l : List (List UInt8 × α)} (h : NeY l) (s : List UInt8) (x : α) : lookY l s = some x ↔ (s, x) ∈ l := by
  unfold lookY
  induction l with
  | nil => simp
  | cons e r ih =>
    have hp := List.pairwise_cons.1 h
    rw [List.find?_cons]
    by_cases q : e.1 = s
    · have q2 : (e.1 == s) = true := by simpa using q
      rw [q2]
      simp only [Option.map_some, Option.some.injEq, List.mem_cons]
      constructor
      · rintro rfl
        exact .inl (by rw [← q])
      · rintro (e1 | e1)
        · rw [← e1]
        · exact absurd q (hp.1 _ e1)
    · have q2 : (e.1 == s) = false := by simpa using q
      rw [q2]
      simp only [List.mem_cons]
      rw [ih hp.2]
      constructor
      · exact .inr
      · rintro (e1 | e1)
        · exact absurd (by rw [← e1]) q
        · exact e1
theorem ne_perm {l l' : List (List UInt8 × α)} (h : l.Perm l') (hn : NeY l) : NeY l' := List.Perm.pairwise h hn fun {a b} q e => q e.symm
theorem look_perm {l l' : List (List UInt8 × α)} (h : l.Perm l') (hn : NeY l) (s : List UInt8) : lookY l s = lookY l' s := by
  have hn' := ne_perm h hn
  refine Option.ext fun x => ?_
  rw [look_mem hn, look_mem hn', h.mem_iff]
theorem look_there {l : List (List UInt8 × α)} (h : RisesY l) (s : List UInt8) : (lookY l s).isSome = thereY l s ∧ ∀ e, l[placeY l s]? = some e → e.1 = s → lookY l s = some e.2 := by
  have hn := rises_ne h
  refine ⟨?_, fun e he q => ?_⟩
  · cases ht : thereY l s with
    | true =>
      obtain ⟨y, hp, hy, hl⟩ := thereY_split ht
      rw [(look_mem hn s y).2 (hy ▸ List.getElem_mem hp)]
      rfl
    | false =>
      cases hq : lookY l s with
      | none => rfl
      | some x => exact absurd rfl (not_thereY h ht _ ((look_mem hn s x).1 hq))
  · refine (look_mem hn s e.2).2 ?_
    have := List.mem_of_getElem? he
    rw [← q]
    exact this
theorem notY_perm {l l' : List (List UInt8 × α)} (h : l.Perm l') (s : List UInt8) : (notY l s).Perm (notY l' s) := h.filter _
end
end Go.Proofs.YtljinmfkogmmlaaGreat.Spc
/-
  The walk of layer 20's registry, on: Set of any name and spec. Conditions: fewer than 10000 names; rows of at most 2^30.
-/
namespace Go.Proofs.YtljinmfkogmmlaaGreat.Spc
open Go.ChangeShapes Go.WideShapes Go.Deep Go.RowKit Tab Mc Pa Quo
set_option linter.unusedSimpArgs false
set_option linter.unusedVariables false
set_option maxRecDepth 100000
/-- What a row of names says: names and specs. -/
def ysOf (xs : List Nm) : List (List UInt8 × Sp) := xs.map fun e => (e.n, e.x)
theorem ys_key (xs : List Nm) : (ysOf xs).map keyE = xs.map nmE := by
  unfold ysOf
  rw [List.map_map]
  rfl
theorem place_ys (xs : List Nm) (s : List UInt8) : placeN xs s = placeY (ysOf xs) s := by
  unfold placeN placeY
  rw [ys_key]
theorem rises_ys {xs : List Nm} : RisesN xs ↔ RisesY (ysOf xs) := by
  unfold RisesN RisesY
  rw [ys_key]
theorem there_ys (xs : List Nm) (s : List UInt8) : (((xs[placeN xs s]?).map Nm.n) == some s) = thereY (ysOf xs) s := by
  unfold thereY
  rw [← place_ys]
  unfold ysOf
  rw [List.getElem?_map, Option.map_map]
  rfl
theorem ys_len (xs : List Nm) : (ysOf xs).length = xs.length := by unfold ysOf; rw [List.length_map]
theorem sl_one {α : Type} {w : World} {en : α → List Value} {v : Value} {xs : List α} (h : Sl w en 1 v xs) : v.oneCell' = true := by
  obtain ⟨A, c, rfl, _⟩ := h
  rfl
theorem nm_one {w : World} {e : Nm} (ha : Sl w numC 1 e.va e.x.a) (hw : Sl w strC 1 e.vw e.x.w) : ∀ u ∈ namC e, u.oneCell' = true := by
  intro u hu
  simp [namC] at hu
  rcases hu with rfl | rfl | rfl | rfl | rfl | rfl | rfl
  · rfl
  · exact sl_one ha
  · exact sl_one hw
  all_goals rfl
theorem RegAt.one {w : World} {A N rb : Nat} {v : Value} {xs : List Nm} (h : RegAt w A N rb v xs) : ∀ e ∈ xs, ∀ u ∈ namC e, u.oneCell' = true := fun e he => nm_one (h.e e he).a.1 (h.e e he).w.1
theorem set_bad20 (w : World) (A N rb : Nat) (v : Value) (xs : List Nm) (s : List UInt8) (va vw : Value) (x : Sp) (h : RegAt w A N rb v xs) (hs : s.length ≤ 1073741824) (ha : Sl w numC 1 va x.a) (hw : Sl w strC 1 vw x.w) (hla : x.a.length ≤ 1073741824) (hlw : x.w.length ≤ 1073741824) (hc : chk20 s x ≠ 0) :
    Calls Tryz.prog 15 #[.pointer (some ⟨rb, 0, none⟩), .string (B s), spV va vw x] w (SetP A N rb v (chk20 s x) (ysOf xs) w) := by
  have HC := Lib.hid fun W (hb : Below w.heap.size w W) => check20_any s va vw x W hs (ha.below hb) (hw.below hb) hla hlw
  have H := Lib.hid h
  obtain ⟨Aa, ca, rfl, _⟩ := ha
  obtain ⟨Aw, cw, rfl, _⟩ := hw
  have hq : chk20 s x = 4 ∨ chk20 s x = 5 := by
    unfold chk20 at hc ⊢
    split
    · exact .inr rfl
    · rw [if_neg (by assumption)] at hc
      split
      · exact .inl rfl
      · rw [if_neg (by assumption)] at hc
        exact absurd rfl hc
  clear h hc
  generalize chk20 s x = er at *
  rcases hq with rfl | rfl
  all_goals
    go_enter Tryz.func15, Tryz.ntmps15
    go_wp2_with (go_at_call 33; refine (HC.out _ (by (repeat (first | exact Below.refl _ _ | assumption | with_reducible refine below_alloc ?_ _ | with_reducible refine below_grow ?_ _ | with_reducible refine below_drewN ?_ _ | with_reducible refine below_drew ?_ | with_reducible refine below_setCell ?_ (by first | (dsimp only; omega) | (simp; done) | (simp; omega)) _)))).mono ?_; rintro e2 w2 ⟨rfl, hb⟩; have HB2 := Lib.hid (below_then (below_alloc (Below.refl w.heap.size w) _) hb); clear hb)
    go_ret
    exact ⟨rfl, v, N, xs, H.out.below HB2.out, Nat.le_refl _, rfl, Keeps.of_below HB2.out, .inl rfl⟩
theorem set20_any (w : World) (A N rb : Nat) (v : Value) (xs : List Nm) (s : List UInt8) (va vw : Value) (x : Sp) (h : RegAt w A N rb v xs) (hx : xs.length < 10000) (hs : s.length ≤ 1073741824) (ha : Sl w numC 1 va x.a) (hw : Sl w strC 1 vw x.w) (hla : x.a.length ≤ 1073741824) (hlw : x.w.length ≤ 1073741824) :
    Calls Tryz.prog 15 #[.pointer (some ⟨rb, 0, none⟩), .string (B s), spV va vw x] w (SetP A N rb v (chk20 s x) (if chk20 s x = 0 then setY (ysOf xs) s x else ysOf xs) w) := by
  by_cases hc : chk20 s x = 0
  · rw [if_pos hc]
    have ht := there_ys xs s
    unfold setY
    cases hq : thereY (ysOf xs) s with
    | true =>
      rw [hq] at ht
      rw [if_pos rfl, hc, ← place_ys]
      obtain ⟨e, he, hen⟩ : ∃ e, xs[placeN xs s]? = some e ∧ e.n = s := by
        cases hq : xs[placeN xs s]? with
        | none => rw [hq] at ht; cases ht
        | some e =>
          rw [hq] at ht
          exact ⟨e, rfl, by simpa using ht⟩
      exact set_there w A N rb v xs s va vw x e _ h (by omega) hs ha hw hla hlw hc rfl he hen
    | false =>
      rw [hq] at ht
      rw [if_neg (by simp), hc, ← place_ys]
      exact set_new20 w A N rb v xs s va vw x _ h hx hs ha hw hla hlw hc rfl ht h.one
  · rw [if_neg hc]
    exact set_bad20 w A N rb v xs s va vw x h hs ha hw hla hlw hc
/-- What Get tells is what is looked up. -/
theorem got_look {xs : List Nm} (h : RisesN xs) (s : List UInt8) : gotN xs s = ((lookY (ysOf xs) s).getD sp0, (lookY (ysOf xs) s).isSome) := by
  obtain ⟨h1, h2⟩ := look_there (rises_ys.1 h) s
  have ht := there_ys xs s
  unfold gotN
  rw [h1, ← ht]
  rw [← place_ys] at h2
  cases hq : xs[placeN xs s]? with
  | none =>
    have hn : lookY (ysOf xs) s = none := by
      rw [hq] at ht
      rw [← ht] at h1
      cases hl : lookY (ysOf xs) s with
      | none => rfl
      | some y => rw [hl] at h1; cases h1
    rw [hn]
    rfl
  | some e =>
    dsimp only
    by_cases he : e.n = s
    · rw [if_pos he]
      have := h2 (e.n, e.x) (by unfold ysOf; rw [List.getElem?_map, hq]; rfl) he
      rw [this, Option.map_some, he, beq_self_eq_true]
      rfl
    · rw [if_neg he]
      have hb : ((some e).map Nm.n == some s) = false := by
        rw [Option.map_some]
        cases hb : (some e.n == some s)
        · rfl
        · exact absurd (by simpa using hb) he
      have hn : lookY (ysOf xs) s = none := by
        rw [hq, hb] at ht
        rw [← ht] at h1
        cases hl : lookY (ysOf xs) s with
        | none => rfl
        | some y => rw [hl] at h1; cases h1
      rw [hn, hb]
      rfl
end Go.Proofs.YtljinmfkogmmlaaGreat.Spc
