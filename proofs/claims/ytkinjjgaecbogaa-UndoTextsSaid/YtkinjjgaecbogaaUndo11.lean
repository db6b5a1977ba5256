/-
  What holds at every round of the law UndoPlays, and how it comes again. Conditions: none beyond the law's own.
-/
import Derived.Test.YtkinjjgaecbogaaUndo10
import Derived.Test.YtkinjjgaecbogaaRing5
namespace Go.Proofs.Ytkinjjgaecbogaa
open Go.ChangeShapes Go.WideShapes Go.Deep Go.RowKit
set_option maxRecDepth 100000
/-- A box of a step. -/
def StpBox (W : World) (b : Nat) (y : Stp) : Prop := Box5 W b (.int .i64 y.ed.pos) (.string (B y.ed.del)) (.string (B y.ed.ins)) (.int .i64 y.ahead) (.int .i64 y.behind)
theorem StpBox.new (W : World) (y : Stp) (t : TypeId) : StpBox (W.alloc (.cells #[.int .i64 y.ed.pos, .string (B y.ed.del), .string (B y.ed.ins), .int .i64 y.ahead, .int .i64 y.behind] t)) W.heap.size y := Box5.new W _ _ _ _ _ t
theorem StpBox.below {W W' : World} {b : Nat} {y : Stp} (h : StpBox W b y) (hb : Below W.heap.size W W') : StpBox W' b y := Box5.below h hb
theorem StpBox.keeps {F : Nat → Prop} {W W' : World} {b : Nat} {y : Stp} (h : StpBox W b y) (hk : Keeps F W W') (hF : ¬ F b) : StpBox W' b y := Box5.keeps h hk hF
theorem StpBox.src {W : World} {b : Nat} {y : Stp} (h : StpBox W b y) : Src W (.slice (some ⟨b, 0, none⟩) 1 1) 1 (Stp.cells y) := by
  refine ⟨_, _, rfl, .inr ⟨_, rfl, fun j u hj => ?_⟩⟩
  match j, hj with
  | 0, hj => simp [Stp.cells] at hj; subst hj; exact h.c0
  | 1, hj => simp [Stp.cells] at hj; subst hj; exact h.c1
  | 2, hj => simp [Stp.cells] at hj; subst hj; exact h.c2
  | 3, hj => simp [Stp.cells] at hj; subst hj; exact h.c3
  | 4, hj => simp [Stp.cells] at hj; subst hj; exact h.c4
  | j + 5, hj => simp [Stp.cells] at hj
theorem sl_tl5 {w : World} {A : Option Addr} {n c : Nat} {t : Stp} {r : List Stp} (h : Sl w Stp.cells 5 (.slice A n c) (t :: r)) : ∃ g off, A = some ⟨g, off, none⟩ ∧ n = r.length + 1 ∧ n ≤ c ∧ c ≤ 9223372036854775807 ∧ g < w.heap.size ∧ Sl w Stp.cells 5 (.slice (if c = 1 then some ⟨g, off, none⟩ else some ⟨g, off + 5, none⟩) r.length (c - 1)) r := by
  obtain ⟨A', c', e, h2, h3, hn, h4⟩ := h
  obtain ⟨b, o, e2, hb, hc⟩ := h4 (by simp)
  subst e2
  injection e with e1 e4 e3
  subst e1 e3 e4
  simp only [List.length_cons] at h2
  refine ⟨b, o, rfl, List.length_cons, by simpa using h2, h3, hb, _, c - 1, rfl, by omega, by omega, fun h => ?_, fun h => ⟨b, o + 5, by rw [if_neg (by omega)], hb, fun k x hx j u hj => ?_⟩⟩
  · split at h <;> cases h
  · have := hc (k + 1) x hx j u hj
    rw [show o + 5 + k * 5 + j = o + (k + 1) * 5 + j by omega]
    exact this
theorem sl_init5 {w : World} {A : Option Addr} {n c : Nat} {l : List Stp} {t : Stp} (h : Sl w Stp.cells 5 (.slice A n c) (l ++ [t])) : ∃ g off, A = some ⟨g, off, none⟩ ∧ n = l.length + 1 ∧ n ≤ c ∧ c ≤ 9223372036854775807 ∧ g < w.heap.size ∧ Sl w Stp.cells 5 (.slice (some ⟨g, off, none⟩) l.length c) l ∧
    (w.cell? ⟨g, off + l.length * 5, none⟩ = some (.int .i64 t.ed.pos) ∧ w.cell? ⟨g, off + l.length * 5 + 1, none⟩ = some (.string (B t.ed.del)) ∧ w.cell? ⟨g, off + l.length * 5 + 2, none⟩ = some (.string (B t.ed.ins)) ∧ w.cell? ⟨g, off + l.length * 5 + 3, none⟩ = some (.int .i64 t.ahead) ∧ w.cell? ⟨g, off + l.length * 5 + 4, none⟩ = some (.int .i64 t.behind)) := by
  obtain ⟨A', c', e, h2, h3, hn, h4⟩ := h
  obtain ⟨b, o, e2, hb, hc⟩ := h4 (by simp)
  subst e2
  injection e with e1 e4 e3
  subst e1 e3 e4
  simp only [List.length_append, List.length_cons, List.length_nil, Nat.zero_add] at h2
  have hk := fun j u hu => hc l.length t (by simp) j u hu
  refine ⟨b, o, rfl, by simp, by simpa using h2, h3, hb, ⟨_, c, rfl, by omega, h3, (fun h => by cases h), fun _ => ⟨b, o, rfl, hb, fun k x hx j u hj => hc k x ?_ j u hj⟩⟩, hk 0 _ rfl, hk 1 _ rfl, hk 2 _ rfl, hk 3 _ rfl, hk 4 _ rfl⟩
  rw [List.getElem?_append_left (List.getElem?_eq_some_iff.1 hx).1]
  exact hx
theorem sl_head5 {w : World} {g off n c : Nat} {r : List Stp} {t : Stp} (h : Sl w Stp.cells 5 (.slice (some ⟨g, off, none⟩) n c) (t :: r)) :
    w.cell? ⟨g, off, none⟩ = some (.int .i64 t.ed.pos) ∧ w.cell? ⟨g, off + 1, none⟩ = some (.string (B t.ed.del)) ∧ w.cell? ⟨g, off + 2, none⟩ = some (.string (B t.ed.ins)) ∧ w.cell? ⟨g, off + 3, none⟩ = some (.int .i64 t.ahead) ∧ w.cell? ⟨g, off + 4, none⟩ = some (.int .i64 t.behind) := by
  obtain ⟨A', c', e, h2, h3, hn, h4⟩ := h
  obtain ⟨b, o, e2, hb, hc⟩ := h4 (by simp)
  subst e2
  injection e with e1 _ _
  injection e1 with e1
  cases e1
  have hk := fun j u hu => hc 0 t rfl j u hu
  simp only [Nat.zero_mul, Nat.add_zero] at hk
  exact ⟨hk 0 _ rfl, hk 1 _ rfl, hk 2 _ rfl, hk 3 _ rfl, hk 4 _ rfl⟩
/-- What is kept while a step is appended to a copy of a row. -/
structure RS (w1 W : World) (A : Option Addr) (c : Nat) (xs : List Stp) (bx : Nat) (y : Stp) : Prop where
  x : Sl W Stp.cells 5 (.slice A xs.length c) xs
  y : StpBox W bx y
  b : Below w1.heap.size w1 W
  xl : ∀ k, (Value.slice A xs.length c).ownBlock = some k → k < w1.heap.size
  yl : bx < w1.heap.size
theorem RS.below {w1 W W' : World} {A : Option Addr} {c : Nat} {xs : List Stp} {bx : Nat} {y : Stp} (h : RS w1 W A c xs bx y) (hb : Below W.heap.size W W') : RS w1 W' A c xs bx y :=
  ⟨h.x.below hb, h.y.below hb, h.b.trans (hb.mono h.b.size), h.xl, h.yl⟩
theorem RS.app {P : Nat → Prop} {w1 W W' : World} {A : Option Addr} {c : Nat} {xs : List Stp} {bx : Nat} {y : Stp} (h : RS w1 W A c xs bx y) (hk : Keeps (fun k => P k ∧ w1.heap.size ≤ k) W W') : RS w1 W' A c xs bx y :=
  ⟨h.x.keepsF hk (fun k e hf => by have := hf.2; have := h.xl k e; omega), h.y.keeps hk (fun hf => by have := hf.2; have := h.yl; omega), below_keeps h.b hk (fun k hk => hk.2), h.xl, h.yl⟩
theorem RS.done {P : Nat → Prop} {w1 W W' : World} {A : Option Addr} {c : Nat} {xs : List Stp} {bx : Nat} {y : Stp} {v : Value} (h : RS w1 W A c xs bx y) (ho : Own W' w1.heap.size 5 v (0 + xs.length + 1) (([] ++ xs.flatMap Stp.cells) ++ Stp.cells y)) (hk : Keeps (fun k => P k ∧ w1.heap.size ≤ k) W W') :
    ∃ g o c, v = .slice (some ⟨g, o, none⟩) (xs.length + 1) c ∧ xs.length + 1 ≤ c ∧ c ≤ 9223372036854775807 ∧ Sl W' Stp.cells 5 v (xs ++ [y]) ∧ (w1.heap.size ≤ g ∧ g < W'.heap.size) ∧ Below w1.heap.size w1 W' := by
  have h' := h.app hk
  obtain ⟨g, o, c, e, h1, h2', h3, h4⟩ := ho.form' (by omega)
  have ho2 : Own W' w1.heap.size 5 v (xs ++ [y]).length ((xs ++ [y]).flatMap Stp.cells) := by
    rw [show (xs ++ [y]).length = 0 + xs.length + 1 by simp, List.flatMap_append]
    simpa using ho
  subst e
  have e0 : 0 + xs.length + 1 = xs.length + 1 := by omega
  rw [e0] at h3 ho2 ⊢
  exact ⟨g, o, c, rfl, h3, h4, ho2.sl stp_len rfl, ⟨h1, h2'⟩, h'.b⟩
structure PlI (w wr : World) (jb : Nat) (lv dv uv : Value) (most : Nat) (dl ul : List Stp) (k : Nat) : Prop where
  j : JAt wr w.heap.size jb lv most (dl ++ ul) dl.length
  d : Sl wr Stp.cells 5 dv dl
  u : Sl wr Stp.cells 5 uv ul
  dx : ∀ i, dv.ownBlock = some i → i < wr.heap.size ∧ i ≠ jb ∧ lv.ownBlock ≠ some i
  ux : ∀ i, uv.ownBlock = some i → i < wr.heap.size ∧ i ≠ jb ∧ lv.ownBlock ≠ some i
  len : dl.length + ul.length ≤ k
  dm : dl.length + ul.length ≤ most
  tl : ∀ s ∈ dl ++ ul, s.ed.del.length ≤ 100 * k ∧ s.ed.ins.length ≤ 100 * k
  bl : Below w.heap.size w wr
theorem PlI.below {w wr W : World} {jb most k : Nat} {lv dv uv : Value} {dl ul : List Stp} (h : PlI w wr jb lv dv uv most dl ul k) (hb : Below wr.heap.size wr W) : PlI w W jb lv dv uv most dl ul k :=
  ⟨h.j.below hb, h.d.below hb, h.u.below hb, fun i e => ⟨Nat.lt_of_lt_of_le (h.dx i e).1 hb.size, (h.dx i e).2⟩, fun i e => ⟨Nat.lt_of_lt_of_le (h.ux i e).1 hb.size, (h.ux i e).2⟩, h.len, h.dm, h.tl, h.bl.trans (hb.mono h.bl.size)⟩
theorem PlI.next {w wr : World} {jb most k : Nat} {lv dv uv : Value} {dl ul : List Stp} (h : PlI w wr jb lv dv uv most dl ul k) : PlI w wr jb lv dv uv most dl ul (k + 1) :=
  ⟨h.j, h.d, h.u, h.dx, h.ux, by have := h.len; omega, h.dm, fun s hs => by have := h.tl s hs; omega, h.bl⟩
/-- Behind a Push, ahead of what is done in the row. -/
structure MidI (w wx : World) (jb sb : Nat) (lv dv : Value) (most : Nat) (ds : List Stp) (y : Stp) (k : Nat) : Prop where
  j : JAt wx w.heap.size jb lv most (keepL most (ds ++ [y])) (keepL most (ds ++ [y])).length
  d : Sl wx Stp.cells 5 dv ds
  dlt : ∀ i, dv.ownBlock = some i → i < wx.heap.size
  yb : StpBox wx sb y
  len : ds.length ≤ k
  dm : ds.length ≤ most
  tl : ∀ s ∈ ds ++ [y], s.ed.del.length ≤ 100 * (k + 1) ∧ s.ed.ins.length ≤ 100 * (k + 1)
  bl : Below w.heap.size w wx
theorem MidI.below {w wx W : World} {jb sb most k : Nat} {lv dv : Value} {ds : List Stp} {y : Stp} (h : MidI w wx jb sb lv dv most ds y k) (hb : Below wx.heap.size wx W) : MidI w W jb sb lv dv most ds y k :=
  ⟨h.j.below hb, h.d.below hb, fun i e => Nat.lt_of_lt_of_le (h.dlt i e) hb.size, h.yb.below hb, h.len, h.dm, h.tl, h.bl.trans (hb.mono h.bl.size)⟩
theorem keepL_few {most : Nat} {l : List Stp} (h : l.length ≤ most) : keepL most l = l := by unfold keepL; rw [show l.length - most = 0 by omega]; rfl
theorem keepL_one {most : Nat} {l : List Stp} (h : l.length = most + 1) : keepL most l = l.drop 1 := by unfold keepL; rw [show l.length - most = 1 by omega]
/-- A new row. -/
theorem MidI.few {w wx W : World} {jb sb most k g : Nat} {lv dv v : Value} {ds : List Stp} {y : Stp} (h : MidI w wx jb sb lv dv most ds y k) (hb : Below wx.heap.size wx W) (hx : Sl W Stp.cells 5 v (ds ++ [y])) (hv : ∀ i, v.ownBlock = some i → i = g) (hg : wx.heap.size ≤ g ∧ g < W.heap.size) (hm : ds.length + 1 ≤ most) :
    PlI w W jb lv v (.slice none 0 0) most (ds ++ [y]) [] (k + 1) := by
  have hl : (ds ++ [y]).length ≤ most := by simp; omega
  have hj := h.j
  rw [keepL_few hl] at hj
  refine ⟨by rw [List.append_nil]; exact hj.below hb, hx, Sl.nil _ _ _, fun i e => ?_, (fun i e => by cases e), by have := h.len; simp; omega, by simpa using hl, by rw [List.append_nil]; exact h.tl, h.bl.trans (hb.mono h.bl.size)⟩
  have e1 := hv i e
  exact ⟨by omega, by have := hj.lt; omega, fun e2 => by have := hj.own.lt i e2; omega⟩
theorem MidI.full {w wx W : World} {jb sb most k g : Nat} {lv dv v : Value} {ds r : List Stp} {y t : Stp} (h : MidI w wx jb sb lv dv most ds y k) (hb : Below wx.heap.size wx W) (hr : ds ++ [y] = t :: r) (hx : Sl W Stp.cells 5 v r) (hv : ∀ i, v.ownBlock = some i → i = g) (hg : wx.heap.size ≤ g ∧ g < W.heap.size) (hm : ¬ ds.length + 1 ≤ most) :
    PlI w W jb lv v (.slice none 0 0) most r [] (k + 1) := by
  have hl : (ds ++ [y]).length = most + 1 := by have := h.dm; simp; omega
  have hj := h.j
  have hrl : r.length = ds.length := by have := congrArg List.length hr; simp at this; omega
  rw [keepL_one hl, hr, List.drop_succ_cons, List.drop_zero] at hj
  refine ⟨by rw [List.append_nil]; exact hj.below hb, hx, Sl.nil _ _ _, fun i e => ?_, (fun i e => by cases e), by have := h.len; simp; omega, by have := h.dm; simp; omega, fun s hs => h.tl s (by rw [hr]; simp at hs ⊢; exact .inr hs), h.bl.trans (hb.mono h.bl.size)⟩
  have e1 := hv i e
  exact ⟨by omega, by have := hj.lt; omega, fun e2 => by have := hj.own.lt i e2; omega⟩
end Go.Proofs.Ytkinjjgaecbogaa
