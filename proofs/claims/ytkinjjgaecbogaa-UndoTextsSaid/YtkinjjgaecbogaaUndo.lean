/-
  The walks of layer 2 (undo): a journal in memory; New, Undo, Redo. Conditions: at most 2^40 steps.
-/
import Derived.Test.YtkinjjgaecbogaaEd
import Derived.Test.YtkinjjgaecbogaaEdit5
import Derived.Test.YtkinjjgaecbogaaOwn
import Derived.Test.YtkinjjgaecbogaaStr
namespace Go.Proofs.Ytkinjjgaecbogaa
open Go.ChangeShapes Go.WideShapes Go.Deep Go.RowKit
set_option maxRecDepth 100000
/-- A step. -/
structure Stp where
  ed : Ed
  ahead : Int
  behind : Int
def Stp.cells (s : Stp) : List Value := [.int .i64 s.ed.pos, .string (B s.ed.del), .string (B s.ed.ins), .int .i64 s.ahead, .int .i64 s.behind]
def Ed.val (e : Ed) : Value := .agg #[.int .i64 e.pos, .string (B e.del), .string (B e.ins)]
def Stp.val (s : Stp) : Value := .agg #[.int .i64 s.ed.pos, .string (B s.ed.del), .string (B s.ed.ins), .int .i64 s.ahead, .int .i64 s.behind]
def stp0 : Stp := ⟨⟨0, [], []⟩, 0, 0⟩
theorem stp_len {xs : List Stp} : ∀ x ∈ xs, (Stp.cells x).length = 5 := fun _ _ => rfl
theorem stp_flat (xs : List Stp) : (xs.flatMap Stp.cells).length = xs.length * 5 := by induction xs <;> simp_all [Stp.cells] <;> omega
theorem stp_one {xs : List Stp} : ∀ u ∈ xs.flatMap Stp.cells, u.oneCell' = true := by
  intro u hu
  simp only [List.mem_flatMap] at hu
  obtain ⟨s, _, hu⟩ := hu
  simp only [Stp.cells, List.mem_cons, List.not_mem_nil, or_false] at hu
  rcases hu with rfl | rfl | rfl | rfl | rfl <;> rfl
theorem info_stp : (Try.prog.info? 89).map (fun i => (i.zero, i.size, i.bytes)) = some (some (.agg #[.int .i64 0, .string ByteArray.empty, .string ByteArray.empty, .int .i64 0, .int .i64 0]), 5, 56) := by kernel_rfl
theorem Own.stp {w : World} {b0 g off n c : Nat} {l : List Stp} (h : Own w b0 5 (.slice (some ⟨g, off, none⟩) n c) n (l.flatMap Stp.cells)) {k : Nat} {s : Stp} (hk : l[k]? = some s) :
    w.cell? ⟨g, off + k * 5, none⟩ = some (.int .i64 s.ed.pos) ∧ w.cell? ⟨g, off + k * 5 + 1, none⟩ = some (.string (B s.ed.del)) ∧ w.cell? ⟨g, off + k * 5 + 2, none⟩ = some (.string (B s.ed.ins)) ∧ w.cell? ⟨g, off + k * 5 + 3, none⟩ = some (.int .i64 s.ahead) ∧ w.cell? ⟨g, off + k * 5 + 4, none⟩ = some (.int .i64 s.behind) := by
  have hn : l.length = n := by have := h.1; rw [stp_flat] at this; omega
  have hlt : k < l.length := (List.getElem?_eq_some_iff.1 hk).1
  obtain ⟨A, c', e, _, _, _, h4⟩ := h.sl stp_len hn
  obtain ⟨b, o, e2, _, hc⟩ := h4 (by omega)
  subst e2
  injection e with e _ _
  injection e with e
  cases e
  exact ⟨hc k s hk 0 _ rfl, hc k s hk 1 _ rfl, hc k s hk 2 _ rfl, hc k s hk 3 _ rfl, hc k s hk 4 _ rfl⟩
/-- A journal in memory: its steps l, of which the first p are done. -/
structure JAt (w : World) (b0 jb : Nat) (lv : Value) (most : Int) (l : List Stp) (p : Nat) : Prop where
  ge : b0 ≤ jb
  lt : jb < w.heap.size
  c0 : w.cell? ⟨jb, 0, none⟩ = some (.int .i64 most)
  c1 : w.cell? ⟨jb, 1, none⟩ = some lv
  c2 : w.cell? ⟨jb, 2, none⟩ = some (.int .i64 p)
  f0 : ∀ j, w.frozen? ⟨jb, j, none⟩ = false
  own : Own w b0 5 lv l.length (l.flatMap Stp.cells)
  ne : lv.ownBlock ≠ some jb
  ple : p ≤ l.length
theorem JAt.below {w w' : World} {b0 jb : Nat} {lv : Value} {most : Int} {l : List Stp} {p : Nat} (h : JAt w b0 jb lv most l p) (hb : Below w.heap.size w w') : JAt w' b0 jb lv most l p := by
  have e := hb.block jb h.lt
  exact ⟨h.ge, Nat.lt_of_lt_of_le h.lt hb.size, (World.cell?_of_block (w := w) e).trans h.c0, (World.cell?_of_block (w := w) e).trans h.c1, (World.cell?_of_block (w := w) e).trans h.c2, fun j => (World.frozen?_of_block (w := w) e).trans (h.f0 j), h.own.below hb, h.ne, h.ple⟩
theorem JAt.ownSet {w : World} {b0 jb : Nat} {lv : Value} {most : Int} {l : List Stp} {p : Nat} (h : JAt w b0 jb lv most l p) (j : Nat) (x : Value) : Own (w.setCell ⟨jb, j, none⟩ x) b0 5 lv l.length (l.flatMap Stp.cells) :=
  h.own.keeps (Keeps.setCell (F := fun k => k = jb) w (a := ⟨jb, j, none⟩) rfl x) (fun k e _ hf => h.ne (by rw [e, hf]))
theorem JAt.set2 {w : World} {b0 jb : Nat} {lv : Value} {most : Int} {l : List Stp} {p : Nat} (h : JAt w b0 jb lv most l p) (q : Nat) (hq : q ≤ l.length) : JAt (w.setCell ⟨jb, 2, none⟩ (.int .i64 q)) b0 jb lv most l q :=
  ⟨h.ge, by simpa [World.setCell] using h.lt, (World.cell?_setCell_other _ _ _ _ (by simp)).trans h.c0, (World.cell?_setCell_other _ _ _ _ (by simp)).trans h.c1, World.cell?_setCell_same' _ _ _ (by rw [h.c2]; rfl), fun j => (World.frozen?_setCell _ _ _ _).trans (h.f0 j), h.ownSet 2 _, h.ne, hq⟩
theorem JAt.set1 {w : World} {b0 jb : Nat} {lv v' : Value} {most : Int} {l l' : List Stp} {p q : Nat} (h : JAt w b0 jb lv most l p) (ho : Own w b0 5 v' l'.length (l'.flatMap Stp.cells)) (hne : v'.ownBlock ≠ some jb) (hc : w.cell? ⟨jb, 2, none⟩ = some (.int .i64 q)) (hq : q ≤ l'.length) :
    JAt (w.setCell ⟨jb, 1, none⟩ v') b0 jb v' most l' q :=
  ⟨h.ge, by simpa [World.setCell] using h.lt, (World.cell?_setCell_other _ _ _ _ (by simp)).trans h.c0, World.cell?_setCell_same' _ _ _ (by rw [h.c1]; rfl), (World.cell?_setCell_other _ _ _ _ (by simp)).trans hc, fun j => (World.frozen?_setCell _ _ _ _).trans (h.f0 j),
    ho.keeps (Keeps.setCell (F := fun k => k = jb) w (a := ⟨jb, 1, none⟩) rfl v') (fun k e _ hf => hne (by rw [e, hf])), hne, hq⟩
theorem newJ_ok (most : Nat) (w : World) (h1 : 1 ≤ most) (h2 : most ≤ 100000) : Calls Try.prog 51 #[.int .i64 most] w fun e w' => e = .returned (.pointer (some ⟨w.heap.size, 0, none⟩)) ∧ JAt w' w.heap.size w.heap.size (.slice none 0 0) most [] 0 ∧ Below w.heap.size w w' := by
  have d1 := no (show ¬ (most : Int) < 1 by omega)
  have d2 := no (show ¬ (100000 : Int) < (most : Int) by omega)
  go_enter Try.func51, Try.ntmps51
  go_wp2
  go_ret
  exact ⟨rfl, ⟨Nat.le_refl _, by simp, by go_simp, by go_simp, by go_simp, fun j => by simp [go_sem], Own.nil _ _ _, by simp [Value.ownBlock], by simp⟩, by (repeat (first | exact Below.refl _ _ | assumption | with_reducible refine below_alloc ?_ _ | with_reducible refine below_grow ?_ _ | with_reducible refine below_drewN ?_ _ | with_reducible refine below_drew ?_ | with_reducible refine below_setCell ?_ (by first | (dsimp only; omega) | (simp; done) | (simp; omega)) _))⟩
theorem newJ_bad (most : Int) (w : World) (h : most < 1 ∨ 100000 < most) : Calls Try.prog 51 #[.int .i64 most] w fun e w' => e = .returned (.pointer none) ∧ w = w' := by
  by_cases d1 : most < 1
  · go_enter Try.func51, Try.ntmps51
    go_wp2
    go_ret
    exact ⟨rfl, rfl⟩
  · have d1' := no d1
    have d2 : (100000 : Int) < most := by omega
    clear h
    go_enter Try.func51, Try.ntmps51
    go_wp2
    go_ret
    exact ⟨rfl, rfl⟩
structure UPost (b0 jb : Nat) (lv : Value) (most : Int) (l : List Stp) (q : Nat) (s : Stp) (ok : Bool) (w : World) (e : Ending) (w' : World) : Prop where
  e : e = .returned (.tuple #[s.val, .bool ok])
  j : JAt w' b0 jb lv most l q
  k : Keeps (fun k => k = jb) w w'
theorem upost_of {b0 jb : Nat} {lv : Value} {most : Int} {l : List Stp} {q : Nat} {s : Stp} {ok : Bool} {w : World} {e : Ending} {w' : World} (h : e = .returned (.tuple #[s.val, .bool ok]) ∧ JAt w' b0 jb lv most l q ∧ Keeps (fun k => k = jb) w w') : UPost b0 jb lv most l q s ok w e w' := ⟨h.1, h.2.1, h.2.2⟩
theorem below_box5 (W : World) (o : Obj) (v0 v1 v2 v3 v4 : Value) : Below W.heap.size W ((((((W.alloc o).setCell ⟨W.heap.size, 0, none⟩ v0).setCell ⟨W.heap.size, 1, none⟩ v1).setCell ⟨W.heap.size, 2, none⟩ v2).setCell ⟨W.heap.size, 3, none⟩ v3).setCell ⟨W.heap.size, 4, none⟩ v4) :=
  below_setCell (below_setCell (below_setCell (below_setCell (below_setCell (below_alloc (Below.refl _ _) o) (Nat.le_refl _) _) (Nat.le_refl _) _) (Nat.le_refl _) _) (Nat.le_refl _) _) (Nat.le_refl _) _
theorem box5_grow (W : World) (o : Obj) (v0 v1 v2 v3 v4 : Value) (g : GrowOf ((((((W.alloc o).setCell ⟨W.heap.size, 0, none⟩ v0).setCell ⟨W.heap.size, 1, none⟩ v1).setCell ⟨W.heap.size, 2, none⟩ v2).setCell ⟨W.heap.size, 3, none⟩ v3).setCell ⟨W.heap.size, 4, none⟩ v4)) :
    Below W.heap.size W (grow _ g) := (below_box5 W o v0 v1 v2 v3 v4).trans ((grow_below _ g).mono (below_box5 W o v0 v1 v2 v3 v4).size)
theorem undo_none (w : World) (b0 jb : Nat) (lv : Value) (most : Int) (l : List Stp) (h : JAt w b0 jb lv most l 0) : Calls Try.prog 54 #[.pointer (some ⟨jb, 0, none⟩)] w (UPost b0 jb lv most l 0 stp0 false w) := by
  have c2 := h.c2
  haveI : Old w jb := ⟨h.lt⟩
  have H := Lib.hid h
  clear h
  go_enter Try.func54, Try.ntmps54
  go_wp2
  refine bodyPost_ret (v := .tuple #[.agg #[.int .i64 0, .string (B []), .string (B []), .int .i64 0, .int .i64 0], .bool false]) (by simp [results, Try.results54, go_sem]) rfl (upost_of ⟨rfl, ?_, ?_⟩)
  · exact H.out.below (by (repeat (first | exact Below.refl _ _ | assumption | with_reducible refine below_alloc ?_ _ | with_reducible refine below_grow ?_ _ | with_reducible refine below_drewN ?_ _ | with_reducible refine below_drew ?_ | with_reducible refine below_setCell ?_ (by first | (dsimp only; omega) | (simp; done) | (simp; omega)) _)))
  · exact Keeps.of_below (by (repeat (first | exact Below.refl _ _ | assumption | with_reducible refine below_alloc ?_ _ | with_reducible refine below_grow ?_ _ | with_reducible refine below_drewN ?_ _ | with_reducible refine below_drew ?_ | with_reducible refine below_setCell ?_ (by first | (dsimp only; omega) | (simp; done) | (simp; omega)) _)))
theorem undo_some (w : World) (b0 jb : Nat) (lv : Value) (most : Int) (l : List Stp) (p : Nat) (s : Stp) (h : JAt w b0 jb lv most l (p + 1)) (hs : l[p]? = some s) (hl : l.length ≤ 1099511627776) : Calls Try.prog 54 #[.pointer (some ⟨jb, 0, none⟩)] w (UPost b0 jb lv most l p s true w) := by
  have c2 := h.c2
  have f0 := h.f0
  have hlt : p < l.length := (List.getElem?_eq_some_iff.1 hs).1
  haveI : Old w jb := ⟨h.lt⟩
  have H := Lib.hid (h.set2 p (by omega))
  have HK : Hid (Keeps (fun k => k = jb) w (w.setCell ⟨jb, 2, none⟩ (.int .i64 p))) := Keeps.setCell (F := fun k => k = jb) w (a := ⟨jb, 2, none⟩) rfl _
  have HS := Lib.hid hs
  clear h hs
  go_enter Try.func54, Try.ntmps54
  go_wp2
  have hjb : Old (w.setCell ⟨jb, 2, none⟩ (.int .i64 p)) jb := inferInstance
  have hsz : (w.setCell ⟨jb, 2, none⟩ (.int .i64 p)).heap.size = w.heap.size := by simp [World.setCell]
  rw [← hsz]
  generalize w.setCell ⟨jb, 2, none⟩ (.int .i64 p) = W at *
  have c1 := H.out.c1
  have c3 := H.out.c2
  obtain ⟨g, off, c, rfl, _, hg, hc1, hc2⟩ := H.out.own.form' (by omega)
  haveI : Old W g := ⟨hg⟩
  obtain ⟨x0, x1, x2, x3, x4⟩ := H.out.own.stp HS.out
  clear c2 f0 hsz
  have hp0 : (0 : Int) ≤ (p : Int) := by omega
  have hp1 : (p : Int) < (l.length : Int) := by omega
  (refine wp_region_grow_tail 10 (by kernel_rfl) (by kernel_rfl) ?_; simp only [List.take_succ_cons, List.take_zero, List.drop_succ_cons, List.drop_zero]; (repeat (go_big_quiet_step (fail))); refine wpQuiet_nil ?_; intro _ hw'; obtain ⟨gq, hw''⟩ := hw'; subst hw'')
  go_wp2
  refine bodyPost_ret (v := .tuple #[.agg #[.int .i64 s.ed.pos, .string (B s.ed.del), .string (B s.ed.ins), .int .i64 s.ahead, .int .i64 s.behind], .bool true]) (by simp [results, Try.results54, go_sem]) rfl (upost_of ⟨rfl, ?_, ?_⟩)
  · exact H.out.below (box5_grow W _ _ _ _ _ _ _)
  · exact HK.out.trans (Keeps.of_below (box5_grow W _ _ _ _ _ _ _))
end Go.Proofs.Ytkinjjgaecbogaa
