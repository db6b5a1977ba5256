/-
  The walk of layer 27 (glob): what a pattern leads to, collected, sorted, each once. Conditions: patterns of at most 9000 bytes, paths of at most 10000, a tree of at most 2^20 files; the library's variable MaxLen holds some number.
-/
import Derived.Test.YtnecmpgcjgkheaaGreatGlob6
set_option linter.unusedSimpArgs false
set_option linter.unusedVariables false
namespace Go.Proofs.YtnecmpgcjgkheaaGreat
open Go.ChangeShapes Go.WideShapes Go.Deep Go.RowKit
theorem LullQ.keep {A : Nat} {F : Nat → Prop} {W W' : World} (h : LullQ A F W W') {k o : Nat} {v : Value} (hc : W.cell? ⟨k, o, none⟩ = some v) (hF : F k) : W'.heap[k]? = W.heap[k]? := by
  obtain ⟨x, h1, h2⟩ := cells_of_cell hc
  exact (h.cells k x h1 h2 hF).trans h1.symm
/-- An own slice in a box, both in blocks that stay. -/
theorem BoxOwn.blocks {w w' : World} {b0 B sz n : Nat} {v : Value} {xs : List Value} (h : BoxOwn w b0 B sz v n xs) (hs : w.heap.size ≤ w'.heap.size) (hB : w'.heap[B]? = w.heap[B]?) (hv : ∀ k o u, v.ownBlock = some k → w.cell? ⟨k, o, none⟩ = some u → w'.heap[k]? = w.heap[k]?) : BoxOwn w' b0 B sz v n xs := by
  refine ⟨Nat.lt_of_lt_of_le h.lt hs, (World.cell?_of_block (w := w) (a := ⟨B, 0, none⟩) hB).trans h.c, (World.frozen?_of_block (w := w) (a := ⟨B, 0, none⟩) hB).trans h.f, ⟨h.own.1, ?_⟩, h.ne⟩
  rcases h.own.2 with ⟨h0, h⟩ | ⟨g, off, c, rfl, h1, h2, h3, h4, h5, h6⟩
  · exact .inl ⟨h0, h.imp id fun ⟨g, off, e, hlt⟩ => ⟨g, off, e, Nat.lt_of_lt_of_le hlt hs⟩⟩
  · refine .inr ⟨g, off, c, rfl, h1, Nat.lt_of_lt_of_le h2 hs, h3, h4, fun j hj => ?_, fun j u hj => ?_⟩
    · obtain ⟨k1, k2⟩ := h5 j hj
      obtain ⟨u, hu⟩ := Option.isSome_iff_exists.1 k1
      have e := hv g _ u rfl hu
      exact ⟨by rw [World.cell?_of_block (w := w) (a := ⟨g, off + j, none⟩) e]; exact k1, by rw [World.frozen?_of_block (w := w) (a := ⟨g, off + j, none⟩) e]; exact k2⟩
    · exact (World.cell?_of_block (w := w) (a := ⟨g, off + j, none⟩) (hv g _ u rfl (h6 j u hj))).trans (h6 j u hj)
theorem BoxOwn.lullQ {A : Nat} {F : Nat → Prop} {w w' : World} {b0 B sz n : Nat} {v : Value} {xs : List Value} (h : BoxOwn w b0 B sz v n xs) (hk : LullQ A F w w') (hB : F B) (hv : ∀ k, v.ownBlock = some k → F k) : BoxOwn w' b0 B sz v n xs :=
  h.blocks hk.size (hk.keep h.c hB) (fun k o u e hc => hk.keep hc (hv k e))
/-- What a round owes, where it appends to the slice in its box. -/
theorem BoxOwn.roundQ {N W0 : Nat} {W w1 : World} {o : Obj} {B n m : Nat} {v v' : Value} {xs ys : List Value} (h : BoxOwn W B B 1 v n xs) (hv : n = 0 → v = .slice none 0 0) (hA : B < W0) (hN : N ≤ B)
    (ho : Own w1 B 1 v' m ys) (hk : Keeps (fun k => v.ownBlock = some k ∧ B ≤ k) (W.alloc o) w1) (hat : v'.ownBlock = v.ownBlock ∨ ∀ k, v'.ownBlock = some k → (W.alloc o).heap.size ≤ k) :
    KeepsFrom W0 W (w1.setCell ⟨B, 0, none⟩ v') ∧ KcQ N (fun k => k = B ∨ v.ownBlock = some k) (fun k => k = B ∨ v'.ownBlock = some k) W (w1.setCell ⟨B, 0, none⟩ v') ∧ BoxOwn (w1.setCell ⟨B, 0, none⟩ v') B B 1 v' m ys ∧ w1.cell? ⟨B, 0, none⟩ = some v ∧ w1.frozen? ⟨B, 0, none⟩ = false := by
  have hal : Below W.heap.size W (W.alloc o) := below_alloc (Below.refl _ _) o
  obtain ⟨h1, h2, h3, h4⟩ := (h.below hal).store ho hk hat
  have hK := (Keeps.of_below (F := fun k => k = B ∨ (v.ownBlock = some k ∧ B ≤ k)) hal).trans h4
  have hlt := h.lt
  refine ⟨KeepsFrom.of_keeps hK fun k hF hlt hAk => ?_, ⟨hK.below (by omega) (fun k hF => by rcases hF with e | e <;> omega), fun k o hk ho hf => (hK.block k (lt_of_get hk) (fun q => hf (q.imp id (·.1)))).trans hk, fun k q => ?_⟩, h1, h2, h3⟩
  · rcases hF with e | ⟨e, _⟩
    · omega
    · rcases Nat.eq_zero_or_pos n with hn | hn
      · rw [hv hn] at e; cases e
      · exact h.own.isCells hn (by decide) e
  · rcases q with q | q
    · exact .inl (.inl q)
    · rcases hat with e | e
      · exact .inl (.inr (e ▸ q))
      · have := e k q
        have := hal.size
        exact .inr (by omega)
end Go.Proofs.YtnecmpgcjgkheaaGreat
namespace Go.Proofs.YtnecmpgcjgkheaaGreat.Glob
open Go.ChangeShapes Go.WideShapes Go.Deep Go.RowKit Fil Pat
attribute [local go_sem] Oper.semAt_some
set_option maxRecDepth 100000
open Go.Lib in
/-- Of a sorted row each once: it rises, and has the same members. -/
theorem compactUpTo_rise {zs : List (List UInt8)} (hs : zs.Pairwise (· ≤ ·)) : ∀ m, m ≤ zs.length → Rise (compactUpTo zs.toArray m) ∧ (∀ a, a ∈ compactUpTo zs.toArray m ↔ a ∈ zs.take m) ∧ ∀ a ∈ compactUpTo zs.toArray m, ∀ t, zs[m - 1]? = some t → a ≤ t
  | 0, _ => by simp [compactUpTo, Rise]
  | m + 1, hm => by
    obtain ⟨h1, h2, h3⟩ := compactUpTo_rise hs m (by omega)
    obtain ⟨t, ht⟩ : ∃ t, zs[m]? = some t := ⟨_, List.getElem?_eq_getElem (by omega)⟩
    have hd : zs.toArray[m]! = t := by rw [Array.getElem!_eq_getD, Array.getD_eq_getD_getElem?]; simp [ht]
    have hle : ∀ a ∈ compactUpTo zs.toArray m, a ≤ t := by
      intro a ha
      have h4 := (h2 a).1 ha
      obtain ⟨i, hi, e⟩ := List.getElem_of_mem h4
      rw [List.length_take] at hi
      rw [List.getElem_take] at e
      obtain ⟨hm2, e2⟩ := List.getElem?_eq_some_iff.1 ht
      rw [← e, ← e2]
      exact List.pairwise_iff_getElem.1 hs i m (by omega) hm2 (by omega)
    have hmem : ∀ a, a ∈ zs.take (m + 1) ↔ a ∈ zs.take m ∨ a = t := by
      intro a
      rw [List.take_add_one, ht]
      simp
    rw [compactUpTo_succ]
    by_cases hk : keeps zs.toArray m = true
    · rw [if_pos hk, hd]
      refine ⟨List.pairwise_append.2 ⟨h1, List.pairwise_singleton _ _, fun a ha b hb => ?_⟩, fun a => by rw [List.mem_append, h2, hmem]; simp, fun a ha u hu => ?_⟩
      · obtain rfl := List.mem_singleton.1 hb
        refine Std.lt_of_le_of_ne (hle a ha) (fun e => ?_)
        subst e
        have hpos : 0 < m := by
          rcases Nat.eq_zero_or_pos m with h0 | h0
          · subst h0; simp [compactUpTo] at ha
          · exact h0
        obtain ⟨t', ht'⟩ : ∃ t, zs[m - 1]? = some t := ⟨_, List.getElem?_eq_getElem (by omega)⟩
        have hd' : zs.toArray[m - 1]! = t' := by rw [Array.getElem!_eq_getD, Array.getD_eq_getD_getElem?]; simp [ht']
        unfold keeps at hk
        rw [decide_eq_true_eq, hd, hd'] at hk
        have h5 := h3 _ ha _ ht'
        have h6 : t' ≤ a := by
          obtain ⟨q1, e1⟩ := List.getElem?_eq_some_iff.1 ht
          obtain ⟨q2, e2⟩ := List.getElem?_eq_some_iff.1 ht'
          rw [← e1, ← e2]
          exact List.pairwise_iff_getElem.1 hs (m - 1) m q2 q1 (by omega)
        rcases hk with h0 | h0
        · omega
        · exact h0 (List.le_antisymm h5 h6)
      · simp only [Nat.add_sub_cancel] at hu
        rw [ht] at hu
        injection hu with hu
        subst hu
        rcases List.mem_append.1 ha with ha | ha
        · exact hle a ha
        · rw [List.mem_singleton.1 ha]; exact List.le_refl _
    · rw [if_neg hk, List.append_nil]
      have hk' := hk
      unfold keeps at hk'
      rw [decide_eq_true_eq, hd] at hk'
      have hpos : 0 < m := by rcases Nat.eq_zero_or_pos m with h0 | h0; exact absurd (.inl h0) hk'; exact h0
      obtain ⟨t', ht'⟩ : ∃ t, zs[m - 1]? = some t := ⟨_, List.getElem?_eq_getElem (by omega)⟩
      have hd' : zs.toArray[m - 1]! = t' := by rw [Array.getElem!_eq_getD, Array.getD_eq_getD_getElem?]; simp [ht']
      rw [hd'] at hk'
      have he : t = t' := Classical.byContradiction fun e => hk' (.inr e)
      subst he
      refine ⟨h1, fun a => ?_, fun a ha u hu => ?_⟩
      · rw [h2, hmem]
        constructor
        · exact .inl
        · rintro (h | rfl)
          · exact h
          · exact List.mem_of_getElem? (i := m - 1) (by rw [List.getElem?_take, if_pos (by omega)]; exact ht')
      · simp only [Nat.add_sub_cancel] at hu
        rw [ht] at hu
        injection hu with hu
        subst hu
        exact hle a ha
theorem compact_paths (l : List (List UInt8)) : Lib.compact (l.mergeSort Go.leB) = l.foldl putL [] := by
  have tr : ∀ a b c : List UInt8, Go.leB a b = true → Go.leB b c = true → Go.leB a c = true := fun a b c h1 h2 => by simp only [Go.leB, decide_eq_true_eq] at *; exact List.le_trans h1 h2
  have tt : ∀ a b : List UInt8, (Go.leB a b || Go.leB b a) = true := fun a b => by simp only [Go.leB, Bool.or_eq_true, decide_eq_true_eq]; exact List.le_total a b
  have hs : (l.mergeSort Go.leB).Pairwise (· ≤ ·) := (List.pairwise_mergeSort tr tt l).imp (fun h => by simpa [Go.leB] using h)
  obtain ⟨h1, h2, -⟩ := compactUpTo_rise hs (l.mergeSort Go.leB).length (Nat.le_refl _)
  refine rise_eq h1 (fold_put_rise _ _ List.Pairwise.nil) (fun a => ?_)
  unfold Lib.compact
  rw [h2, List.take_length, fold_put_mem, (List.mergeSort_perm l Go.leB).mem_iff]
  simp
/-- What holds at each round of AppendSeq. -/
def CollQ (N B : Nat) (w : World) (pre : List (List UInt8)) (F : Nat → Prop) (W : World) : Prop :=
  ∃ v, F = (fun k => k = B ∨ v.ownBlock = some k) ∧ BoxOwn W B B 1 v pre.length (pre.flatMap strC) ∧ (pre.length = 0 → v = .slice none 0 0) ∧ Below N w W
/-- What comes of it. -/
def RowS (N : Nat) (xs : List (List UInt8)) (w : World) (e : Ending) (w' : World) : Prop := ∃ v, e = .returned v ∧ Own w' w.heap.size 1 v xs.length (xs.flatMap strC) ∧ Below N w w'
set_option maxHeartbeats 1600000 in
theorem appendSeq_q (gf : Nat) (lb : Array Value) (G : Nat → Prop) (N db : Nat) (xs : List (List UInt8)) (w : World) (hg : GivesE Tryz.prog gf lb Fil.encS G N db xs w) (eg : ∀ args w, (callFunc gf args).run Tryz.prog w = .ok (.enter gf args) w)
    (hG : ∀ k, G k → k < w.heap.size) (hdb : db < w.heap.size) (hN : N ≤ db) (hl : xs.length ≤ 1099511627776) :
    Calls Tryz.prog 39 #[.slice none 0 0, .func (.func gf) #[] lb] w (RowS N xs w) := by
  obtain ⟨i0, hi0, hz00, hz01, hz02⟩ := info_parts info_str
  have HG := Lib.hid hG
  have HGV : Hid (GivesE Tryz.prog gf lb Fil.encS G N db xs (w.alloc (.cells #[.slice none 0 0] 26))) := fun n hn l J Jx W hW => hg n hn l J Jx W ((below_alloc (Below.refl _ _) _).trans (hW.mono (by simp)))
  clear hG hg
  refine (callsIn_wide (n := 9)).1 ?_; refine callsIn_of_wp_marks Tryz.func39 rfl trivial ?_ rfl; simp only [Tryz.ntmps39, List.size_toArray, List.length_cons, List.length_nil, Nat.reduceAdd, Nat.reduceSub, Array.replicate_succ, Array.replicate_zero, List.push_toArray, List.append_toArray, List.nil_append, List.cons_append]
  gi_wp2
  refine wpIn_iterE (n := 9) (by omega) (gf := gf) (lb := lb) rfl eg HGV.out (by simp; omega) (by simp; omega) (fun _ => rfl) (CollQ N w.heap.size w) (fun _ _ _ _ => False)
    ?hI (fun _ _ _ _ _ _ h => h) ?hF ?hIE (fun k => k = w.heap.size ∨ (Value.slice none 0 0).ownBlock = some k) ?hG
    ⟨.slice none 0 0, rfl, ⟨by simp, by go_simp, by simp [go_sem], Own.nil _ _ _, by simp [Value.ownBlock]⟩, fun _ => rfl, (below_alloc (Below.refl _ _) _).mono (by omega)⟩
    (fun x a' W' => a' = { tmps := #[.slice none 0 0, .func (.func gf) #[] lb, .pointer (some ⟨w.heap.size, 0, none⟩), undef, .slice none 0 0, .string (B x), .func (.func gf) #[] lb, .string (B x), undef, undef, undef, undef, undef], defers := [] })
    (fun x a' W W' hL e => e) ?assign ?body ?done ?stop
  case hI =>
    rintro s F W W' hL ⟨v, rfl, h1, h2, h3⟩
    have hs : (w.alloc (.cells #[.slice none 0 0] 26)).heap.size = w.heap.size + 1 := by simp
    exact ⟨v, rfl, h1.lullQ hL (.inl rfl) (fun k e => .inr e), h2, hL.below h3 (by omega) (by omega)⟩
  case hF =>
    rintro s F W ⟨v, rfl, h1, h2, h3⟩ k (rfl | q)
    · exact h1.lt
    · exact h1.own.lt k q
  case hIE =>
    rintro F W v' hf ⟨v, rfl, h1, h2, h3⟩
    have hS := Keeps.setCell (F := fun k => k = db) W (a := ⟨db, 0, none⟩) rfl v'
    obtain rfl := h2 rfl
    exact ⟨_, rfl, h1.blocks hS.size (hS.block _ h1.lt (by omega)) (fun k o u e => by cases e), h2, h3.trans (hS.below (by have := h3.size; omega) (fun k e => by omega))⟩
  case hG =>
    rintro k (rfl | q) h
    · have := HG.out _ h; omega
    · cases q
  case assign =>
    intro l pre x F W K hi hs hK
    have HK := Lib.hid (hK { tmps := #[.slice none 0 0, .func (.func gf) #[] lb, .pointer (some ⟨w.heap.size, 0, none⟩), undef, .slice none 0 0, .string (B x), .func (.func gf) #[] lb, .string (B x), undef, undef, undef, undef, undef], defers := [] } W (KeepsFrom.refl _ _) (KcQ.refl _ _ _) hi rfl)
    clear hK
    unfold Fil.encS at *
    gi_wp2
    exact HK.out
  case body =>
    rintro l pre x F _ W hs ⟨v, rfl, h1, h2, h3⟩ rfl hlt
    have hs' : w.heap.size + 1 ≤ W.heap.size := by simpa using hs
    have hc := h1.c
    have hf := h1.f
    haveI : Old W w.heap.size := ⟨h1.lt⟩
    have hpl : pre.length ≤ 1099511627776 := by have := hlt.length_le; simp at this; omega
    have H1 := Lib.hid h1
    have H2 := Lib.hid h2
    have H3 := Lib.hid h3
    clear h1 h2 h3
    gi_wp2_with ((gi_at_builtin; refine wpListIn_append_src rfl (.tmp 8) (.tmp 10) _ rfl w.heap.size 9 i0 _ 1 16 Tryz.underlying26 hi0 hz00 hz01 hz02 rfl (by decide) _ pre.length (pre.flatMap strC) rfl (H1.out.own.below (by (repeat (first | exact Below.refl _ _ | assumption | with_reducible refine below_alloc ?_ _ | with_reducible refine below_grow ?_ _ | with_reducible refine below_drewN ?_ _ | with_reducible refine below_drew ?_ | with_reducible refine below_setCell ?_ (by first | (dsimp only; omega) | (simp; done) | (simp; omega)) _)))) _ 1 (strC x) rfl rfl (Src.one _ _ _ _) (by simp [strC, Value.oneCell']) (by unfold maxLen; omega) (by omega) (by first | (simp; done) | omega | (simp; omega)) ?_; intro v1 w1 hown1 hg1 hat1 hty1; have HTY1 := Lib.hid hty1; clear hty1); obtain ⟨g1, o1, c1, rfl, q1, q2, q3, q4⟩ := hown1.form; obtain ⟨r1, r2, r3, r4, r5⟩ := H1.out.roundQ (W0 := w.heap.size + 1) (N := N) H2.out (by omega) (by omega) hown1 hg1 hat1; have R := Lib.hid (And.intro r1 (And.intro r2 r3)); clear hown1 hg1 hat1 r1 r2 r3)
    refine ⟨_, by rw [World.size_alloc]; exact R.out.1, R.out.2.1, _, rfl, by simpa [List.flatMap_append] using R.out.2.2, fun h => by simp at h, (H3.out.trans R.out.2.1.low)⟩
  case done =>
    rintro D F W hD ⟨v, rfl, h1, h2, h3⟩ hK
    have hD' : w.heap.size + 1 ≤ D := by simpa using hD
    have hc := h1.c
    haveI : Old W w.heap.size := ⟨h1.lt⟩
    have H1 := Lib.hid h1
    have H3 := Lib.hid h3
    clear h1 h2 h3
    gi_wp2
    refine ⟨by simp, .inl ⟨_, _, rfl, run_takeDeferred hK, ?_⟩⟩
    have hL : Lull (w.heap.size + 1) W (W.putObj D (.deferred none)) := Lull.of_grown (grownBy_putObj' W D _) (fun r e => by cases e; exact ⟨hD', _, hK, rfl⟩)
    exact ⟨_, results_tmp rfl _ _ _, v, rfl, H1.out.own.lull hL, hL.below H3.out (by omega) (by omega)⟩
  case stop =>
    rintro D c pre F W _ _ h _
    exact h.elim
theorem collect_q (gf : Nat) (lb : Array Value) (G : Nat → Prop) (N db : Nat) (xs : List (List UInt8)) (w : World) (hg : GivesE Tryz.prog gf lb Fil.encS G N db xs w) (eg : ∀ args w, (callFunc gf args).run Tryz.prog w = .ok (.enter gf args) w)
    (hG : ∀ k, G k → k < w.heap.size) (hdb : db < w.heap.size) (hN : N ≤ db) (hl : xs.length ≤ 1099511627776) : Calls Tryz.prog 20 #[.func (.func gf) #[] lb] w (RowS N xs w) := by
  have HC := Lib.hid (appendSeq_q gf lb G N db xs w hg eg hG hdb hN hl)
  clear hg hG
  go_enter Tryz.func20, Tryz.ntmps20
  go_wp2_with (go_at_call 39; refine HC.out.mono ?_; rintro e w1 ⟨v, rfl, h1, h2⟩; have H1 := Lib.hid h1; clear h1)
  go_ret
  exact ⟨v, rfl, H1.out, h2⟩
theorem sorted_q (gf : Nat) (lb : Array Value) (G : Nat → Prop) (N db : Nat) (xs : List (List UInt8)) (w : World) (hg : GivesE Tryz.prog gf lb Fil.encS G N db xs w) (eg : ∀ args w, (callFunc gf args).run Tryz.prog w = .ok (.enter gf args) w)
    (hG : ∀ k, G k → k < w.heap.size) (hdb : db < w.heap.size) (hN : N ≤ db) (hl : xs.length ≤ 1099511627776) : Calls Tryz.prog 12 #[.func (.func gf) #[] lb] w (RowS N (xs.mergeSort Go.leB) w) := by
  have HC := Lib.hid (collect_q gf lb G N db xs w hg eg hG hdb hN hl)
  have HS := Lib.hid fun (v : Value) (W : World) (h : Own W w.heap.size 1 v xs.length (xs.flatMap strC)) => sort_str xs w.heap.size v W h (by omega)
  clear hg hG
  go_enter Tryz.func12, Tryz.ntmps12
  go_wp2_with (first
    | (go_at_call 20; refine HC.out.mono ?_; rintro e w1 ⟨v, rfl, h1, h2⟩; have H1 := Lib.hid h1; have H2 := Lib.hid h2; clear h1 h2)
    | (go_at_call 21; refine (HS.out _ _ H1.out).mono ?_; rintro e w2 ⟨rfl, h3, h4⟩; have H3 := Lib.hid h3; have H4 := Lib.hid (H2.out.trans (h4.below (by have := H2.out.size; omega) (fun k e => by omega))); clear h3 h4))
  go_ret
  exact ⟨v, rfl, by rw [List.length_mergeSort]; exact H3.out, H4.out⟩
theorem compact_str (xs : List (List UInt8)) (b0 : Nat) (v : Value) (w : World) (h : Own w b0 1 v xs.length (xs.flatMap strC)) (hl : xs.length ≤ 1099511627776) :
    Calls Tryz.prog 11 #[v] w fun e w' => ∃ v', e = .returned v' ∧ Own w' b0 1 v' (Lib.compact xs).length ((Lib.compact xs).flatMap strC) ∧ Keeps (fun k => v.ownBlock = some k ∧ b0 ≤ k) w w' := by
  rcases Nat.eq_zero_or_pos xs.length with h0 | h0
  · obtain rfl := List.eq_nil_of_length_eq_zero h0
    obtain ⟨A, c, rfl, _⟩ := h.form0
    have H := Lib.hid h
    clear h h0 hl
    go_enter Tryz.func11, Tryz.ntmps11
    go_wp2
    go_ret
    exact ⟨_, rfl, H.out, Keeps.refl _ _⟩
  · obtain ⟨g, off, c, rfl, hb, hg, hc, hc2⟩ := h.form' h0
    have h' := h
    rw [strC_map] at h'
    obtain ⟨hH, _, _⟩ := own_holds Go.Proofs.encStr h' h0
    refine (Tryz.slices_Compact_string g off c xs w hH (by omega) hc).mono ?_
    rintro e w' ⟨rfl, m, rfl⟩
    have hcl : (Lib.compact xs).length ≤ xs.length := by
      unfold Lib.compact Lib.compactUpTo
      rw [List.length_map]
      exact Nat.le_trans (List.length_filter_le _ _) (by simp)
    have e1 : ∀ W : World, W = Go.Sort.grow W #[] := fun W => by simp [Go.Sort.grow]
    rw [e1 (Go.Sort.putRow _ _ _ _ _)]
    have hp := own_put Go.Proofs.encStr h' h0 (d := (Lib.compact xs ++ List.replicate (xs.length - (Lib.compact xs).length) []).toArray) (by simp; omega) m #[]
    refine ⟨_, rfl, ?_, (keeps_put _ _ _ _ _ _ _).mono fun k _ e => by subst e; exact ⟨rfl, hb⟩⟩
    have hq := own_cut hp h0 hcl
    rw [strC_map (Lib.compact xs)]
    simpa using hq
theorem paths_any (w : World) (tb : Nat) (dir p : List UInt8) : Calls Tryz.prog 13 #[.pointer (some ⟨tb, 0, none⟩), .string (B dir), .string (B p)] w fun e w' =>
    e = .returned (.func (.func 22) #[] #[.pointer (some ⟨w.heap.size, 0, none⟩), .pointer (some ⟨w.heap.size + 1 + 1, 0, none⟩), .pointer (some ⟨w.heap.size + 1, 0, none⟩)]) ∧
    w' = ((w.alloc (.cells #[.pointer (some ⟨tb, 0, none⟩)] 28)).alloc (.cells #[.string (B dir)] 9)).alloc (.cells #[.string (B p)] 9) := by
  go_enter Tryz.func13, Tryz.ntmps13
  go_wp2
  go_ret
  exact ⟨by simp, rfl⟩
set_option maxHeartbeats 1600000 in
/-- What a pattern leads to. -/
theorem globPaths_any (w : World) (b0 tb : Nat) (x : List Fl) (nb : List (List UInt8) → Nat) (mp : List (List UInt8) → Option Nat) (dir p : List UInt8) (ht : TreeAt w b0 tb x nb mp) (hm : MaxL w)
    (hpl : p.length ≤ 9000) (hdl : dir.length ≤ 10000) (hx : x.length ≤ 1048576) (hxl : ∀ f ∈ x, f.path.length ≤ 10000) (hn : (globG x dir p).length ≤ 1099511627776) :
    Calls Tryz.prog 7 #[.pointer (some ⟨tb, 0, none⟩), .string (B dir), .string (B p)] w (StrP (pathsG x dir p) w) := by
  have hbl : Below w.heap.size w (((w.alloc (.cells #[.pointer (some ⟨tb, 0, none⟩)] 28)).alloc (.cells #[.string (B dir)] 9)).alloc (.cells #[.string (B p)] 9)) := by (repeat (first | with_reducible exact Below.refl _ _ | with_reducible assumption | with_reducible refine below_alloc ?_ _ | with_reducible refine below_grow ?_ _ | with_reducible refine below_drewN ?_ _ | with_reducible refine below_drew ?_ | with_reducible refine below_setCell ?_ (by first | (dsimp only; omega) | (simp; done) | (simp; omega)) _))
  have hsz : (((w.alloc (.cells #[.pointer (some ⟨tb, 0, none⟩)] 28)).alloc (.cells #[.string (B dir)] 9)).alloc (.cells #[.string (B p)] 9)).heap.size = w.heap.size + 3 := by simp
  have hP : PaAt w b0 tb x nb mp w.heap.size (w.heap.size + 1 + 1) (w.heap.size + 1) p dir (((w.alloc (.cells #[.pointer (some ⟨tb, 0, none⟩)] 28)).alloc (.cells #[.string (B dir)] 9)).alloc (.cells #[.string (B p)] 9)) :=
    ⟨ht, hm, hbl, by go_simp, by go_simp, by go_simp, by simp [go_sem], by omega⟩
  have HS := Lib.hid (sorted_q 22 _ _ w.heap.size (w.heap.size + 1) (globG x dir p) _ (paths_gives hP hpl hdl hx hxl) (enters_of Tryz.func22 (by kernel_rfl) rfl) (fun k hk => by rcases hk with rfl | rfl | rfl <;> omega) (by omega) (by omega) hn)
  have HC := Lib.hid fun (v : Value) (W : World) (h : Own W w.heap.size 1 v ((globG x dir p).mergeSort Go.leB).length (((globG x dir p).mergeSort Go.leB).flatMap strC)) => compact_str ((globG x dir p).mergeSort Go.leB) w.heap.size v W h (by rw [List.length_mergeSort]; exact hn)
  have HP := Lib.hid (paths_any w tb dir p)
  have HE := Lib.hid (compact_paths (globG x dir p))
  have HB := Lib.hid hbl
  have HSZ := Lib.hid hsz
  clear hbl hP hn hsz
  go_enter Tryz.func7, Tryz.ntmps7
  go_wp2_with (first
    | (go_at_call 13; refine HP.out.mono ?_; rintro e w1 ⟨rfl, rfl⟩)
    | (go_at_call 12; refine HS.out.mono ?_; rintro e w2 ⟨v, rfl, h1, h2⟩; have H1 := Lib.hid (h1.mono (b1 := w.heap.size) (by have := HSZ.out; omega)); have H2 := Lib.hid (HB.out.trans h2); clear h1 h2)
    | (go_at_call 11; refine (HC.out _ _ H1.out).mono ?_; rintro e w3 ⟨v', rfl, h3, h4⟩; have H3 := Lib.hid h3; have H4 := Lib.hid (H2.out.trans (h4.below H2.out.size (fun k e => e.2))); clear h3 h4))
  go_ret
  refine ⟨v', rfl, ?_, H4.out⟩
  have h5 := H3.out
  rw [HE.out] at h5
  exact h5
end Go.Proofs.YtnecmpgcjgkheaaGreat.Glob
