/-
  The walks of layer 2 (undo), on: list, Done, Undone. Conditions: at most 2^30 steps.
-/
import Derived.Test.YtkinjjgaecbogaaUndo5
namespace Go.Proofs.Ytkinjjgaecbogaa
open Go.ChangeShapes Go.WideShapes Go.Deep Go.RowKit Go.Shelf
attribute [local go_sem] Oper.semAt_some
set_option maxRecDepth 100000
def ListPost (xs : List Stp) (w : World) (e : Ending) (w' : World) : Prop := ∃ v, e = .returned v ∧ Own w' w.heap.size 5 v xs.length (xs.flatMap Stp.cells) ∧ Below w.heap.size w w'
def ListI (w : World) (pre : List Stp) (W : World) : Prop := ∃ v, BoxOwn W w.heap.size w.heap.size 5 v pre.length (pre.flatMap Stp.cells) ∧ (pre.length = 0 → v = .slice none 0 0) ∧ Below w.heap.size w W
theorem Box5.block {W W' : World} {rb : Nat} {v0 v1 v2 v3 v4 : Value} (h : Box5 W rb v0 v1 v2 v3 v4) (e : W'.heap[rb]? = W.heap[rb]?) (hs : W.heap.size ≤ W'.heap.size) : Box5 W' rb v0 v1 v2 v3 v4 :=
  ⟨Nat.lt_of_lt_of_le h.lt hs, (World.cell?_of_block (w := W) e).trans h.c0, (World.cell?_of_block (w := W) e).trans h.c1, (World.cell?_of_block (w := W) e).trans h.c2, (World.cell?_of_block (w := W) e).trans h.c3, (World.cell?_of_block (w := W) e).trans h.c4, fun j => (World.frozen?_of_block (w := W) e).trans (h.f j)⟩
theorem KeepsFrom.alloc (A : Nat) (W : World) (o : Obj) : KeepsFrom A W (W.alloc o) := KeepsFrom.of_keeps (F := fun _ => False) (Keeps.of_below (below_alloc (Below.refl _ _) o)) (fun _ h => h.elim)
set_option maxHeartbeats 1600000 in
theorem list_any (gf : Nat) (lb : Array Value) (G : Nat → Prop) (xs : List Stp) (w : World) (hg : Gives Try.prog gf lb encS G xs w) (eg : ∀ args w, (callFunc gf args).run Try.prog w = .ok (.enter gf args) w)
    (hG : ∀ k, G k → k < w.heap.size) (hl : xs.length ≤ 1073741824) :
    Calls Try.prog 86 #[.func (.func gf) #[] lb] w (ListPost xs w) := by
  obtain ⟨i5, hi5, hz50, hz51, hz52⟩ := info_parts info_stp
  have HG := Lib.hid hG
  have HGV := Lib.hid hg
  clear hG hg
  refine (callsIn_wide (n := 9)).1 ?_; refine callsIn_of_wp_marks Try.func86 rfl trivial ?_ rfl; simp only [Try.ntmps86, List.size_toArray, List.length_cons, List.length_nil, Nat.reduceAdd, Nat.reduceSub, Array.replicate_succ, Array.replicate_zero, List.push_toArray, List.append_toArray, List.nil_append, List.cons_append]
  gi_wp2
  refine wpIn_iter (n := 9) (by omega) (gf := gf) (lb := lb) rfl eg (HGV.out.below (below_alloc (Below.refl _ _) _)) (fun k hk => by have := HG.out k hk; simp; omega) (fun _ => rfl) (ListI w) (fun _ _ _ => False)
    (fun s W W' hL ⟨v, h1, h2, h3⟩ => ⟨v, h1.lull hL, h2, hL.below h3 (by simp) (Nat.le_refl _)⟩) (fun _ _ _ _ _ h => h)
    ⟨.slice none 0 0, ⟨by simp, by go_simp, by simp [go_sem], Own.nil _ _ _, by simp [Value.ownBlock]⟩, fun _ => rfl, below_alloc (Below.refl _ _) _⟩
    (fun x a' W' => ∃ ub, a' = { tmps := #[.func (.func gf) #[] lb, undef, .pointer (some ⟨w.heap.size, 0, none⟩), .pointer (some ⟨ub, 0, none⟩), .func (.func gf) #[] lb, x.val, undef, undef, undef, undef, undef], defers := [] } ∧ Box5 W' ub (.int .i64 x.ed.pos) (.string (B x.ed.del)) (.string (B x.ed.ins)) (.int .i64 x.ahead) (.int .i64 x.behind))
    (fun x a' W W' hL ⟨ub, e, h⟩ => ⟨ub, e, h.block (hL.block h.c0) hL.size⟩) ?assign ?body ?done ?stop
  case assign =>
    intro l pre x W K hi hs hK
    have hK := hK { tmps := #[.func (.func gf) #[] lb, undef, .pointer (some ⟨w.heap.size, 0, none⟩), .pointer (some ⟨W.heap.size, 0, none⟩), .func (.func gf) #[] lb, x.val, undef, undef, undef, undef, undef], defers := [] } _
      (KeepsFrom.alloc _ W (.cells #[.int .i64 x.ed.pos, .string (B x.ed.del), .string (B x.ed.ins), .int .i64 x.ahead, .int .i64 x.behind] 89)) (fun k hk => heap_alloc_lt _ _ _ (by have := HG.out k hk; simp at hs; omega))
      (by obtain ⟨v, h1, h2, h3⟩ := hi; exact ⟨v, h1.below (below_alloc (Below.refl _ _) _), h2, below_alloc h3 _⟩) ⟨_, rfl, Box5.new W _ _ _ _ _ _⟩
    unfold encS Stp.val at *
    have HK := Lib.hid hK
    clear hK
    gi_wp2
    exact HK.out
  case body =>
    rintro l pre x a' W hs ⟨v, h1, h2, h3⟩ ⟨ub, rfl, hB⟩ hlt
    have hs' : w.heap.size + 1 ≤ W.heap.size := by simpa using hs
    have hc := h1.c
    have hf := h1.f
    have b0' := hB.c0
    have b1' := hB.c1
    have b2' := hB.c2
    have b3' := hB.c3
    have b4' := hB.c4
    have H1 := Lib.hid h1
    have H2 := Lib.hid h2
    have H3 := Lib.hid h3
    clear h1 h2 h3
    unfold encS Stp.val at *
    gi_wp2_with ((gi_at_builtin; refine wpListIn_append_src rfl (.tmp 6) (.tmp 8) _ rfl w.heap.size 89 i5 _ 5 56 Try.underlying87 hi5 hz50 hz51 hz52 rfl (by decide) _ pre.length (pre.flatMap Stp.cells) rfl (H1.out.own.below (by (repeat (first | exact Below.refl _ _ | assumption | with_reducible refine below_alloc ?_ _ | with_reducible refine below_grow ?_ _ | with_reducible refine below_drewN ?_ _ | with_reducible refine below_drew ?_ | with_reducible refine below_setCell ?_ (by first | (dsimp only; omega) | (simp; done) | (simp; omega)) _)))) _ 1 (Stp.cells x) rfl rfl (Src.one _ _ _ _) (by simp [Stp.cells, Value.oneCell']) (by unfold maxLen; omega) (by omega) (by first | (simp; done) | omega | (simp; omega)) ?_; intro v1 w1 hown1 hg1 hat1 hty1; have HTY1 := Lib.hid hty1; clear hty1); obtain ⟨g1, o1, c1, rfl, q1, q2, q3, q4⟩ := hown1.form; obtain ⟨r1, r2, r3, r4, r5, r6⟩ := H1.out.round (A := w.heap.size + 1) (G := G) (by omega) H2.out H3.out (Nat.le_refl _) (Nat.le_refl _) (by omega) HG.out hown1 hg1 hat1; have R := Lib.hid (And.intro r1 (And.intro r2 (And.intro r3 r4))); clear hown1 hg1 hat1 r1 r2 r3 r4)
    refine ⟨by rw [World.size_alloc]; exact R.out.1, R.out.2.1, _, by simpa using R.out.2.2.1, fun h => by simp at h, R.out.2.2.2⟩
  case done =>
    rintro D W hD ⟨v, h1, h2, h3⟩ hK
    have hD' : w.heap.size + 1 ≤ D := by simpa using hD
    have hc := h1.c
    have hf := h1.f
    have H1 := Lib.hid h1
    have H3 := Lib.hid h3
    obtain ⟨A, c, rfl, _⟩ := h1.own.form0
    clear h1 h2 h3
    gi_wp2
    have hS : Keeps (fun k => k = w.heap.size) W (W.setCell ⟨w.heap.size, 0, none⟩ (.slice A xs.length c)) := Keeps.setCell (F := fun k => k = w.heap.size) W (a := ⟨w.heap.size, 0, none⟩) rfl _
    have hK' := (hS.block D (Array.getElem?_eq_some_iff.1 hK).1 (by omega)).trans hK
    have hL : Lull (w.heap.size + 1) (W.setCell ⟨w.heap.size, 0, none⟩ (.slice A xs.length c)) ((W.setCell ⟨w.heap.size, 0, none⟩ (.slice A xs.length c)).putObj D (.deferred none)) := Lull.of_grown (grownBy_putObj' _ D _) (fun r e => by cases e; exact ⟨hD', _, hK', rfl⟩)
    have hcell : (W.setCell ⟨w.heap.size, 0, none⟩ (.slice A xs.length c)).cell? ⟨w.heap.size, 0, none⟩ = some (.slice A xs.length c) := World.cell?_setCell_same' _ _ _ (by rw [hc]; rfl)
    have hcell2 := hL.cell hcell
    have hO2 := (H1.out.own.keeps hS (fun k e _ hf => H1.out.ne (by rw [e, hf]))).lull hL
    have hB2 := hL.below (below_setCell H3.out (Nat.le_refl _) (.slice A xs.length c)) (by omega) (Nat.le_refl _)
    refine ⟨by simp, .inl ⟨_, _, rfl, run_takeDeferred hK', ?_⟩⟩
    exact ⟨.slice A xs.length c, by simp [results, Try.results86, go_sem, hcell2], _, rfl, hO2, hB2⟩
  case stop =>
    rintro D c pre W _ _ h _
    exact h.elim
theorem done_any (w : World) (b0 jb : Nat) (lv : Value) (most : Int) (l : List Stp) (p : Nat) (h : JAt w b0 jb lv most l p) (hl : l.length ≤ 1073741824) : Calls Try.prog 57 #[.pointer (some ⟨jb, 0, none⟩)] w (ListPost (l.take p) w) := by
  have hple := h.ple
  obtain ⟨A, c, rfl, _⟩ := h.own.form0
  have hgv := part_gives w b0 jb A c most l p 0 p h (by omega) hl
  rw [List.drop_zero, Nat.zero_add] at hgv
  have HL := Lib.hid (list_any _ _ _ _ _ hgv (enters_of Try.func102 (by kernel_rfl) rfl) (fun k hk => by have := h.own.lt k hk; simp; omega) (by simp; omega))
  have c2 := h.c2
  haveI : Old w jb := ⟨h.lt⟩
  have HP := Lib.hid (part_any w jb 0 p)
  clear h hgv
  go_enter Try.func57, Try.ntmps57
  go_wp2_with (first
    | (go_at_call 87; refine HP.out.mono ?_; rintro e w1 ⟨rfl, rfl⟩)
    | (go_at_call 86; refine HL.out.mono ?_; rintro e w2 ⟨v, rfl, ho, hb⟩; have HO := Lib.hid ho; have HB := Lib.hid hb; obtain ⟨A2, c2, rfl, _⟩ := ho.form0; clear ho hb))
  go_ret
  have hln : (l.take p).length = p := by rw [List.length_take]; omega
  have ho := HO.out.mono (b1 := w.heap.size) (by simp; omega)
  rw [hln] at ho
  refine ⟨_, rfl, ?_, below_then (by (repeat (first | exact Below.refl _ _ | assumption | with_reducible refine below_alloc ?_ _ | with_reducible refine below_grow ?_ _ | with_reducible refine below_drewN ?_ _ | with_reducible refine below_drew ?_ | with_reducible refine below_setCell ?_ (by first | (dsimp only; omega) | (simp; done) | (simp; omega)) _))) HB.out⟩
  rw [hln]
  exact ho
theorem undone_any (w : World) (b0 jb : Nat) (lv : Value) (most : Int) (l : List Stp) (p : Nat) (h : JAt w b0 jb lv most l p) (hl : l.length ≤ 1073741824) : Calls Try.prog 58 #[.pointer (some ⟨jb, 0, none⟩)] w (ListPost (l.drop p) w) := by
  have hple := h.ple
  obtain ⟨A, c, rfl, _⟩ := h.own.form0
  have H := Lib.hid h
  have c1 := h.c1
  have c2 := h.c2
  haveI : Old w jb := ⟨h.lt⟩
  have HP := Lib.hid fun w => part_any w jb p l.length
  clear h
  go_enter Try.func58, Try.ntmps58
  go_wp2
  (refine wp_region_grow_tail 10 (by kernel_rfl) (by kernel_rfl) ?_; simp only [List.take_succ_cons, List.take_zero, List.drop_succ_cons, List.drop_zero]; (repeat (go_big_quiet_step (fail))); refine wpQuiet_nil ?_; intro _ hw'; obtain ⟨gq, hw''⟩ := hw'; subst hw'')
  have HJ := Lib.hid (H.out.below (grow_below w gq))
  have hgv := part_gives (grow w gq) b0 jb A c most l p p (l.length - p) HJ.out (by omega) hl
  have htk : (l.drop p).take (l.length - p) = l.drop p := List.take_of_length_le (by simp)
  rw [htk, show p + (l.length - p) = l.length by omega] at hgv
  have HL := Lib.hid (list_any _ _ _ _ _ hgv (enters_of Try.func102 (by kernel_rfl) rfl) (fun k hk => by have := HJ.out.own.lt k hk; simp; omega) (by simp; omega))
  have hsz : w.heap.size ≤ (grow w gq).heap.size := gq.2.size
  have HG := Lib.hid (grow_below w gq)
  clear hgv htk
  generalize grow w gq = W at *
  go_wp2_with (first
    | (go_at_call 87; refine (HP.out _).mono ?_; rintro e w1 ⟨rfl, rfl⟩)
    | (go_at_call 86; refine HL.out.mono ?_; rintro e w2 ⟨v, rfl, ho, hb⟩; have HO := Lib.hid ho; have HB := Lib.hid hb; obtain ⟨A2, c2, rfl, _⟩ := ho.form0; clear ho hb))
  go_ret
  have hln : (l.drop p).length = l.length - p := List.length_drop
  have ho := HO.out.mono (b1 := w.heap.size) (by simp; omega)
  rw [hln] at ho
  refine ⟨_, rfl, by rw [hln]; exact ho, HG.out.trans ((below_then (below_alloc (below_alloc (below_alloc (Below.refl _ _) _) _) _) HB.out).mono hsz)⟩
end Go.Proofs.Ytkinjjgaecbogaa
