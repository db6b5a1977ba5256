/-
  The walks of layer 2 (undo), on: Redo. Conditions: at most 2^40 steps.
-/
import Derived.Test.YtkinjjgaecbogaaUndo
namespace Go.Proofs.Ytkinjjgaecbogaa
open Go.ChangeShapes Go.WideShapes Go.Deep Go.RowKit
set_option maxRecDepth 100000
theorem redo_none (w : World) (b0 jb : Nat) (lv : Value) (most : Int) (l : List Stp) (h : JAt w b0 jb lv most l l.length) : Calls Try.prog 55 #[.pointer (some ⟨jb, 0, none⟩)] w (UPost b0 jb lv most l l.length stp0 false w) := by
  have c1 := h.c1
  have c2 := h.c2
  haveI : Old w jb := ⟨h.lt⟩
  have H := Lib.hid h
  obtain ⟨A, c, rfl, _⟩ := h.own.form0
  clear h
  go_enter Try.func55, Try.ntmps55
  go_wp2
  (refine wp_region_grow (by kernel_rfl) (by kernel_rfl) ?_; (repeat (go_big_quiet_step (fail))); refine wpQuiet_nil ?_; intro _ hw'; obtain ⟨gq, hw''⟩ := hw'; subst hw'')
  go_wp2
  refine bodyPost_ret (v := .tuple #[.agg #[.int .i64 0, .string (B []), .string (B []), .int .i64 0, .int .i64 0], .bool false]) (by simp [results, Try.results55, go_sem]) rfl (upost_of ⟨rfl, ?_, ?_⟩)
  · exact H.out.below (box5_grow w _ _ _ _ _ _ _)
  · exact Keeps.of_below (box5_grow w _ _ _ _ _ _ _)
theorem Keeps.weaken {F G : Nat → Prop} {w w' : World} (h : Keeps F w w') (hF : ∀ k, k < w.heap.size → F k → G k) : Keeps G w w' := ⟨h.os, h.tape, h.output, h.size, fun k hk hg => h.block k hk (fun hf => hg (hF k hk hf)), h.ty⟩
theorem Keeps.step {F G : Nat → Prop} {w W w' : World} (h : Keeps F w W) (k : Keeps G W w') (hG : ∀ j, j < w.heap.size → G j → F j) : Keeps F w w' :=
  ⟨k.os.trans h.os, k.tape.trans h.tape, k.output.trans h.output, Nat.le_trans h.size k.size, fun j hj hf => (k.block j (Nat.lt_of_lt_of_le hj h.size) (fun hg => hf (hG j hj hg))).trans (h.block j hj hf), fun j hj => (k.ty j (Nat.lt_of_lt_of_le hj h.size)).trans (h.ty j hj)⟩
theorem JAt.keeps {F : Nat → Prop} {w w' : World} {b0 jb : Nat} {lv : Value} {most : Int} {l : List Stp} {p : Nat} (h : JAt w b0 jb lv most l p) (hk : Keeps F w w') (hF : ¬ F jb) (hF2 : ∀ k, lv.ownBlock = some k → ¬ F k) : JAt w' b0 jb lv most l p := by
  have e := hk.block jb h.lt hF
  exact ⟨h.ge, Nat.lt_of_lt_of_le h.lt hk.size, (World.cell?_of_block (w := w) e).trans h.c0, (World.cell?_of_block (w := w) e).trans h.c1, (World.cell?_of_block (w := w) e).trans h.c2, fun j => (World.frozen?_of_block (w := w) e).trans (h.f0 j), h.own.keeps hk (fun k hv _ hf => hF2 k hv hf), h.ne, h.ple⟩
/-- A box of five cells. -/
structure Box5 (W : World) (rb : Nat) (v0 v1 v2 v3 v4 : Value) : Prop where
  lt : rb < W.heap.size
  c0 : W.cell? ⟨rb, 0, none⟩ = some v0
  c1 : W.cell? ⟨rb, 1, none⟩ = some v1
  c2 : W.cell? ⟨rb, 2, none⟩ = some v2
  c3 : W.cell? ⟨rb, 3, none⟩ = some v3
  c4 : W.cell? ⟨rb, 4, none⟩ = some v4
  f : ∀ j, W.frozen? ⟨rb, j, none⟩ = false
theorem Box5.new (w : World) (v0 v1 v2 v3 v4 : Value) (t : TypeId) : Box5 (w.alloc (.cells #[v0, v1, v2, v3, v4] t)) w.heap.size v0 v1 v2 v3 v4 :=
  ⟨by simp, by go_simp, by go_simp, by go_simp, by go_simp, by go_simp, fun j => by simp [go_sem]⟩
theorem Box5.keeps {F : Nat → Prop} {W W' : World} {rb : Nat} {v0 v1 v2 v3 v4 : Value} (h : Box5 W rb v0 v1 v2 v3 v4) (hk : Keeps F W W') (hF : ¬ F rb) : Box5 W' rb v0 v1 v2 v3 v4 := by
  have e := hk.block rb h.lt hF
  exact ⟨Nat.lt_of_lt_of_le h.lt hk.size, (World.cell?_of_block (w := W) e).trans h.c0, (World.cell?_of_block (w := W) e).trans h.c1, (World.cell?_of_block (w := W) e).trans h.c2, (World.cell?_of_block (w := W) e).trans h.c3, (World.cell?_of_block (w := W) e).trans h.c4, fun j => (World.frozen?_of_block (w := W) e).trans (h.f j)⟩
theorem keeps5 (W : World) (rb : Nat) (v0 v1 v2 v3 v4 : Value) : Keeps (fun k => k = rb) W (((((W.setCell ⟨rb, 0, none⟩ v0).setCell ⟨rb, 1, none⟩ v1).setCell ⟨rb, 2, none⟩ v2).setCell ⟨rb, 3, none⟩ v3).setCell ⟨rb, 4, none⟩ v4) :=
  ((((Keeps.setCell (F := fun k => k = rb) W (a := ⟨rb, 0, none⟩) rfl v0).trans (Keeps.setCell (F := fun k => k = rb) _ (a := ⟨rb, 1, none⟩) rfl v1)).trans (Keeps.setCell (F := fun k => k = rb) _ (a := ⟨rb, 2, none⟩) rfl v2)).trans (Keeps.setCell (F := fun k => k = rb) _ (a := ⟨rb, 3, none⟩) rfl v3)).trans (Keeps.setCell (F := fun k => k = rb) _ (a := ⟨rb, 4, none⟩) rfl v4)
theorem Box5.set5 {W : World} {rb : Nat} {v0 v1 v2 v3 v4 : Value} (h : Box5 W rb v0 v1 v2 v3 v4) (x0 x1 x2 x3 x4 : Value) : Box5 (((((W.setCell ⟨rb, 0, none⟩ x0).setCell ⟨rb, 1, none⟩ x1).setCell ⟨rb, 2, none⟩ x2).setCell ⟨rb, 3, none⟩ x3).setCell ⟨rb, 4, none⟩ x4) rb x0 x1 x2 x3 x4 := by
  have h0 : Box5 (W.setCell ⟨rb, 0, none⟩ x0) rb x0 v1 v2 v3 v4 := ⟨by simpa [World.setCell] using h.lt, World.cell?_setCell_same' _ _ _ (by rw [h.c0]; rfl), (World.cell?_setCell_other _ _ _ _ (by simp)).trans h.c1, (World.cell?_setCell_other _ _ _ _ (by simp)).trans h.c2, (World.cell?_setCell_other _ _ _ _ (by simp)).trans h.c3, (World.cell?_setCell_other _ _ _ _ (by simp)).trans h.c4, fun j => (World.frozen?_setCell _ _ _ _).trans (h.f j)⟩
  generalize W.setCell ⟨rb, 0, none⟩ x0 = W at *
  have h1 : Box5 (W.setCell ⟨rb, 1, none⟩ x1) rb x0 x1 v2 v3 v4 := ⟨by simpa [World.setCell] using h0.lt, (World.cell?_setCell_other _ _ _ _ (by simp)).trans h0.c0, World.cell?_setCell_same' _ _ _ (by rw [h0.c1]; rfl), (World.cell?_setCell_other _ _ _ _ (by simp)).trans h0.c2, (World.cell?_setCell_other _ _ _ _ (by simp)).trans h0.c3, (World.cell?_setCell_other _ _ _ _ (by simp)).trans h0.c4, fun j => (World.frozen?_setCell _ _ _ _).trans (h0.f j)⟩
  generalize W.setCell ⟨rb, 1, none⟩ x1 = W at *
  have h2 : Box5 (W.setCell ⟨rb, 2, none⟩ x2) rb x0 x1 x2 v3 v4 := ⟨by simpa [World.setCell] using h1.lt, (World.cell?_setCell_other _ _ _ _ (by simp)).trans h1.c0, (World.cell?_setCell_other _ _ _ _ (by simp)).trans h1.c1, World.cell?_setCell_same' _ _ _ (by rw [h1.c2]; rfl), (World.cell?_setCell_other _ _ _ _ (by simp)).trans h1.c3, (World.cell?_setCell_other _ _ _ _ (by simp)).trans h1.c4, fun j => (World.frozen?_setCell _ _ _ _).trans (h1.f j)⟩
  generalize W.setCell ⟨rb, 2, none⟩ x2 = W at *
  have h3 : Box5 (W.setCell ⟨rb, 3, none⟩ x3) rb x0 x1 x2 x3 v4 := ⟨by simpa [World.setCell] using h2.lt, (World.cell?_setCell_other _ _ _ _ (by simp)).trans h2.c0, (World.cell?_setCell_other _ _ _ _ (by simp)).trans h2.c1, (World.cell?_setCell_other _ _ _ _ (by simp)).trans h2.c2, World.cell?_setCell_same' _ _ _ (by rw [h2.c3]; rfl), (World.cell?_setCell_other _ _ _ _ (by simp)).trans h2.c4, fun j => (World.frozen?_setCell _ _ _ _).trans (h2.f j)⟩
  generalize W.setCell ⟨rb, 3, none⟩ x3 = W at *
  exact ⟨by simpa [World.setCell] using h3.lt, (World.cell?_setCell_other _ _ _ _ (by simp)).trans h3.c0, (World.cell?_setCell_other _ _ _ _ (by simp)).trans h3.c1, (World.cell?_setCell_other _ _ _ _ (by simp)).trans h3.c2, (World.cell?_setCell_other _ _ _ _ (by simp)).trans h3.c3, World.cell?_setCell_same' _ _ _ (by rw [h3.c4]; rfl), fun j => (World.frozen?_setCell _ _ _ _).trans (h3.f j)⟩
set_option maxHeartbeats 800000 in
theorem redo_some (w : World) (b0 jb : Nat) (lv : Value) (most : Int) (l : List Stp) (p : Nat) (s : Stp) (h : JAt w b0 jb lv most l p) (hs : l[p]? = some s) (hl : l.length ≤ 1099511627776) : Calls Try.prog 55 #[.pointer (some ⟨jb, 0, none⟩)] w (UPost b0 jb lv most l (p + 1) s true w) := by
  have hlt : p < l.length := (List.getElem?_eq_some_iff.1 hs).1
  have H := Lib.hid h
  have HS := Lib.hid hs
  obtain ⟨g, off, c, rfl, _, hg, hc1, hc2⟩ := h.own.form' (by omega)
  have hne : ((p : Int) == (l.length : Int)) = false := by rw [beq_eq_false_iff_ne]; omega
  have hcast : ((p + 1 : Nat) : Int) = (p : Int) + 1 := by omega
  have hjw := h.lt
  clear h hs
  go_enter Try.func55, Try.ntmps55
  go_wp2
  have HB := Lib.hid (Box5.new w (.int .i64 0) (.string (B [])) (.string (B [])) (.int .i64 0) (.int .i64 0) 89)
  have H0 := Lib.hid (H.out.below (below_alloc (Below.refl _ _) (.cells #[.int .i64 0, .string (B []), .string (B []), .int .i64 0, .int .i64 0] 89)))
  have HK0 : Hid (Keeps (fun k => k = jb) w (w.alloc (.cells #[.int .i64 0, .string (B []), .string (B []), .int .i64 0, .int .i64 0] 89))) := Keeps.of_below (below_alloc (Below.refl _ _) _)
  generalize hrb : w.heap.size = rb at *
  have hrj : rb ≠ jb := by omega
  have hrg : rb ≠ g := by omega
  generalize (w.alloc (.cells #[.int .i64 0, .string (B []), .string (B []), .int .i64 0, .int .i64 0] 89)) = W0 at *
  have c1 := H0.out.c1
  have c2 := H0.out.c2
  have f0 := H0.out.f0
  haveI : Old W0 jb := ⟨H0.out.lt⟩
  haveI : Old W0 rb := ⟨HB.out.lt⟩
  (refine wp_region_grow (by kernel_rfl) (by kernel_rfl) ?_; (repeat (go_big_quiet_step (fail))); refine wpQuiet_nil ?_; intro _ hw'; obtain ⟨gq, hw''⟩ := hw'; subst hw'')
  go_wp2
  have H1 := H0.out.set2 (p + 1) (by omega)
  have K1 := Keeps.setCell (F := fun k => k = jb) W0 (a := ⟨jb, 2, none⟩) rfl (.int .i64 ((p + 1 : Nat) : Int))
  rw [hcast] at H1 K1
  have HB1 := Lib.hid (HB.out.keeps K1 hrj)
  have HK1 := Lib.hid (HK0.out.trans K1)
  have i1 : Old (W0.setCell ⟨jb, 2, none⟩ (.int .i64 ((p : Int) + 1))) jb := inferInstance
  have i2 : Old (W0.setCell ⟨jb, 2, none⟩ (.int .i64 ((p : Int) + 1))) rb := inferInstance
  generalize growSet gq ⟨jb, 2, none⟩ (.int .i64 ((p : Int) + 1)) = g2
  generalize W0.setCell ⟨jb, 2, none⟩ (.int .i64 ((p : Int) + 1)) = W1 at *
  have d1 := H1.c1
  have d2 := H1.c2
  obtain ⟨x0, x1, x2, x3, x4⟩ := H1.own.stp HS.out
  obtain ⟨_, _, _, e, _, hg1, _, _⟩ := H1.own.form' (by omega)
  cases e
  haveI : Old W1 g := ⟨hg1⟩
  have b0' := HB1.out.c0
  have b1' := HB1.out.c1
  have b2' := HB1.out.c2
  have b3' := HB1.out.c3
  have b4' := HB1.out.c4
  have bf := HB1.out.f
  have HH1 := Lib.hid H1
  have hp0 : (0 : Int) ≤ (p : Int) := by omega
  have hp1 : (p : Int) < (l.length : Int) := by omega
  clear H1 K1 c1 c2 f0
  (refine wp_region_grow_tail 11 (by kernel_rfl) (by kernel_rfl) ?_; simp only [List.take_succ_cons, List.take_zero, List.drop_succ_cons, List.drop_zero]; (repeat (go_big_quiet_step (fail))); refine wpQuiet_nil ?_; intro _ hw'; obtain ⟨gq, hw''⟩ := hw'; subst hw'')
  go_wp2
  have hb5 := fun g => (HB1.out.set5 (.int .i64 s.ed.pos) (.string (B s.ed.del)) (.string (B s.ed.ins)) (.int .i64 s.ahead) (.int .i64 s.behind)).keeps (Keeps.of_below (F := fun _ => False) (grow_below _ g)) id
  have r0 := fun g => (hb5 g).c0
  have r1 := fun g => (hb5 g).c1
  have r2 := fun g => (hb5 g).c2
  have r3 := fun g => (hb5 g).c3
  have r4 := fun g => (hb5 g).c4
  refine bodyPost_ret (v := .tuple #[.agg #[.int .i64 s.ed.pos, .string (B s.ed.del), .string (B s.ed.ins), .int .i64 s.ahead, .int .i64 s.behind], .bool true]) (by simp only [results, Try.results55]; simp [go_sem, r0, r1, r2, r3, r4]) rfl (upost_of ⟨rfl, ?_, ?_⟩)
  · exact (HH1.out.keeps (keeps5 W1 rb _ _ _ _ _) (fun e => hrj e.symm) (fun k hk e => by cases hk; exact hrg e.symm)).below (grow_below _ _)
  · exact (HK1.out.step (keeps5 W1 rb _ _ _ _ _) (fun j hj e => by omega)).step (Keeps.of_below (F := fun _ => False) (grow_below _ _)) (fun _ _ h => h.elim)
end Go.Proofs.Ytkinjjgaecbogaa
