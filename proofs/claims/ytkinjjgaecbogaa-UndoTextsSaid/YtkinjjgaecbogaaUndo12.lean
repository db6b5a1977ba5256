/-
  Small laws for the law UndoPlays. Conditions: none.
-/
import Derived.Test.YtkinjjgaecbogaaUndo11
import Derived.Test.YtkinjjgaecbogaaKeyed3
namespace Go.Proofs.Ytkinjjgaecbogaa
open Go.ChangeShapes Go.WideShapes Go.Deep Go.RowKit
set_option maxRecDepth 100000
theorem JAt.mono {w : World} {b0 b1 jb : Nat} {lv : Value} {most : Int} {l : List Stp} {p : Nat} (h : JAt w b0 jb lv most l p) (hb : b1 ≤ b0) : JAt w b1 jb lv most l p :=
  ⟨Nat.le_trans hb h.ge, h.lt, h.c0, h.c1, h.c2, h.f0, h.own.mono hb, h.ne, h.ple⟩
theorem PlI.start {w w0 w1 : World} {most : Nat} (hb : Below w.heap.size w w0) (hj : JAt w1 w0.heap.size w0.heap.size (.slice none 0 0) most [] 0) (h1 : Below w0.heap.size w0 w1) : ∃ jb, w0.heap.size = jb ∧ PlI w w1 jb (.slice none 0 0) (.slice none 0 0) (.slice none 0 0) most [] [] 0 :=
  ⟨_, rfl, hj.mono hb.size, Sl.nil _ _ _, Sl.nil _ _ _, fun i e => (by cases e), fun i e => (by cases e), by simp, by simp, fun s hs => by simp at hs, below_then hb h1⟩
theorem build_stp0 (w : World) : (Instr.buildSlice 87 0 #[]).run Try.prog w = .ok (.slice (some ⟨w.heap.size, 0, none⟩) 0 0) (w.alloc (.cells #[] 89)) := by kernel_rfl
theorem build_stp (w : World) (y : Stp) : (Instr.buildSlice 87 1 #[(0, .agg #[.int .i64 y.ed.pos, .string (B y.ed.del), .string (B y.ed.ins), .int .i64 y.ahead, .int .i64 y.behind])]).run Try.prog w = .ok (.slice (some ⟨w.heap.size, 0, none⟩) 1 1) (w.alloc (.cells #[.int .i64 y.ed.pos, .string (B y.ed.del), .string (B y.ed.ins), .int .i64 y.ahead, .int .i64 y.behind] 89)) := by kernel_rfl
theorem StpBox.loads {W : World} {b : Nat} {y : Stp} (h : StpBox W b y) : W.cell? ⟨b, 0, none⟩ = some (.int .i64 y.ed.pos) ∧ W.cell? ⟨b, 1, none⟩ = some (.string (B y.ed.del)) ∧ W.cell? ⟨b, 2, none⟩ = some (.string (B y.ed.ins)) ∧ W.cell? ⟨b, 3, none⟩ = some (.int .i64 y.ahead) ∧ W.cell? ⟨b, 4, none⟩ = some (.int .i64 y.behind) :=
  ⟨h.c0, h.c1, h.c2, h.c3, h.c4⟩
theorem StpBox.lt {W : World} {b : Nat} {y : Stp} (h : StpBox W b y) : b < W.heap.size := Box5.lt h
/-- What a Push leaves of the row and of the box. -/
theorem PlI.mid {w W0 w2 : World} {jb sb most k : Nat} {lv dv uv : Value} {dl ul : List Stp} {s : Stp} (h : PlI w W0 jb lv dv uv most dl ul k) (hy : StpBox W0 sb s) (h1 : sb ≠ jb) (h2 : lv.ownBlock ≠ some sb) (hk : Keeps (fun k => k = jb ∨ (lv.ownBlock = some k ∧ w.heap.size ≤ k)) W0 w2) :
    Sl w2 Stp.cells 5 dv dl ∧ StpBox w2 sb s ∧ Below w.heap.size w w2 ∧ ∀ i, dv.ownBlock = some i → i < w2.heap.size :=
  ⟨h.d.keepsF hk (fun i e hf => by obtain ⟨_, d1, d2⟩ := h.dx i e; exact hf.elim d1 (fun hf => d2 hf.1)), hy.keeps hk (fun hf => hf.elim h1 (fun hf => h2 hf.1)), below_keeps h.bl hk (fun i hf => hf.elim (fun e => by rw [e]; exact h.j.ge) (·.2)), fun i e => Nat.lt_of_lt_of_le (h.dx i e).1 hk.size⟩
/-- Behind a Push that didn't join. -/
theorem PlI.pushed {w W0 w2 : World} {jb sb most k : Nat} {lv lv2 dv uv : Value} {dl ul : List Stp} {s : Stp} (h : PlI w W0 jb lv dv uv most dl ul k) (hy : StpBox W0 sb s) (h1 : sb ≠ jb) (h2 : lv.ownBlock ≠ some sb) (hs : s.ed.del.length ≤ 100 ∧ s.ed.ins.length ≤ 100)
    (hj : JAt w2 w.heap.size jb lv2 most (keepL most ((dl ++ ul).take dl.length ++ [s])) (keepL most ((dl ++ ul).take dl.length ++ [s])).length) (hk : Keeps (fun k => k = jb ∨ (lv.ownBlock = some k ∧ w.heap.size ≤ k)) W0 w2) : MidI w w2 jb sb lv2 dv most dl s k := by
  obtain ⟨d, y, b, lt⟩ := h.mid hy h1 h2 hk
  rw [List.take_left' rfl] at hj
  refine ⟨hj, d, lt, y, by have := h.len; omega, by have := h.dm; omega, fun x hx => ?_, b⟩
  rcases List.mem_append.1 hx with hx | hx
  · have := h.tl x (List.mem_append_left _ hx); omega
  · simp at hx; subst hx; omega
theorem MidI.rs {w w2 : World} {jb sb most k n c : Nat} {A : Option Addr} {lv : Value} {ds : List Stp} {y : Stp} (h : MidI w w2 jb sb lv (.slice A n c) most ds y k) (hn : n = ds.length) : RS w2 w2.drew A c ds sb y := by
  subst hn
  exact ⟨h.d.below (below_drew (Below.refl _ _)), h.yb.below (below_drew (Below.refl _ _)), below_drew (Below.refl _ _), h.dlt, h.yb.lt⟩
theorem row_parts (ds : List Stp) (y : Stp) : ∃ t r, ds ++ [y] = t :: r ∧ r.length = ds.length := by
  cases ds with
  | nil => exact ⟨y, [], rfl, rfl⟩
  | cons x ds => exact ⟨x, ds ++ [y], rfl, by simp⟩
theorem MidI.full1 {w wx W : World} {jb sb most k g o c : Nat} {lv dv : Value} {ds : List Stp} {y : Stp} (h : MidI w wx jb sb lv dv most ds y k) (hb : Below wx.heap.size wx W) (hx : Sl W Stp.cells 5 (.slice (some ⟨g, o, none⟩) (ds.length + 1) c) (ds ++ [y])) (hg : wx.heap.size ≤ g ∧ g < W.heap.size) (hm : ¬ ds.length + 1 ≤ most) (hm1 : 1 ≤ most) (hc : ds.length + 1 ≤ c) :
    ∃ r, PlI w W jb lv (.slice (some ⟨g, o + 5, none⟩) ds.length (c - 1)) (.slice none 0 0) most r [] (k + 1) := by
  obtain ⟨t, r, hr, hrl⟩ := row_parts ds y
  have hx2 := hx
  rw [hr] at hx2
  obtain ⟨g', o', e1, -, -, -, -, h5⟩ := sl_tl5 hx2
  injection e1 with e1
  cases e1
  rw [hrl, if_neg (by omega)] at h5
  exact ⟨r, h.full hb hr h5 (fun i e => (Option.some.inj e).symm) hg hm⟩
theorem grow_of_drewN (W : World) (n : Nat) : Below W.heap.size W (W.drewN n) := below_drewN (Below.refl _ _) n
theorem list_parts {α : Type} (l : List α) : l = [] ∨ ∃ y r, l = y :: r := by
  cases l with
  | nil => exact .inl rfl
  | cons y r => exact .inr ⟨y, r, rfl⟩
theorem own_stp1 (w : World) (y : Stp) (t : TypeId) : Own (w.alloc (.cells #[.int .i64 y.ed.pos, .string (B y.ed.del), .string (B y.ed.ins), .int .i64 y.ahead, .int .i64 y.behind] t)) w.heap.size 5 (.slice (some ⟨w.heap.size, 0, none⟩) 1 1) 1 (Stp.cells y) := by
  have hb := StpBox.new w y t
  refine ⟨rfl, .inr ⟨w.heap.size, 0, 1, rfl, Nat.le_refl _, hb.lt, Nat.le_refl _, by unfold maxLen; omega, fun j hj => ?_, fun j u hj => ?_⟩⟩
  · match j, hj with
    | 0, _ => exact ⟨by rw [hb.c0]; rfl, hb.f 0⟩
    | 1, _ => exact ⟨by rw [hb.c1]; rfl, hb.f 1⟩
    | 2, _ => exact ⟨by rw [hb.c2]; rfl, hb.f 2⟩
    | 3, _ => exact ⟨by rw [hb.c3]; rfl, hb.f 3⟩
    | 4, _ => exact ⟨by rw [hb.c4]; rfl, hb.f 4⟩
    | j + 5, h => omega
  · rw [Nat.zero_add]
    match j, hj with
    | 0, hj => simp [Stp.cells] at hj; subst hj; exact hb.c0
    | 1, hj => simp [Stp.cells] at hj; subst hj; exact hb.c1
    | 2, hj => simp [Stp.cells] at hj; subst hj; exact hb.c2
    | 3, hj => simp [Stp.cells] at hj; subst hj; exact hb.c3
    | 4, hj => simp [Stp.cells] at hj; subst hj; exact hb.c4
    | j + 5, hj => simp [Stp.cells] at hj
theorem undone_row {P : Nat → Prop} {W4 W5 : World} {o : Obj} {v : Value} {x : Stp} {ul : List Stp} (ho : Own W5 W4.heap.size 5 v (1 + ul.length) (Stp.cells x ++ ul.flatMap Stp.cells)) (hg : Keeps (fun k => P k ∧ W4.heap.size ≤ k) (W4.alloc o) W5) :
    ∃ g o c, v = .slice (some ⟨g, o, none⟩) (ul.length + 1) c ∧ Sl W5 Stp.cells 5 v (x :: ul) ∧ (W4.heap.size ≤ g ∧ g < W5.heap.size) ∧ Below W4.heap.size W4 W5 := by
  obtain ⟨g, o, c, e, h1, h2, h3, h4⟩ := ho.form' (by omega)
  have ho2 : Own W5 W4.heap.size 5 v (x :: ul).length ((x :: ul).flatMap Stp.cells) := by
    rw [show (x :: ul).length = 1 + ul.length by simp; omega]
    exact ho
  exact ⟨g, o, c, by rw [e, Nat.add_comm], ho2.sl stp_len rfl, ⟨h1, h2⟩, below_keeps (below_alloc (Below.refl _ _) _) hg (fun k hk => hk.2)⟩
/-- An Undo that had something. -/
theorem PlI.undone {w W0 w2 W : World} {jb most k cd : Nat} {lv uv v : Value} {Ad : Option Addr} {dl l1 ul : List Stp} {x : Stp} (h : PlI w W0 jb lv (.slice Ad dl.length cd) uv most dl ul k) (hdl : dl = l1 ++ [x]) (hj : JAt w2 w.heap.size jb lv most (dl ++ ul) l1.length) (hk : Keeps (fun k => k = jb) W0 w2) (hb : Below w2.heap.size w2 W)
    (hu : Sl W Stp.cells 5 v (x :: ul)) (hv : ∀ i, v.ownBlock = some i → w2.heap.size ≤ i ∧ i < W.heap.size) : PlI w W jb lv (.slice Ad l1.length cd) v most l1 (x :: ul) (k + 1) := by
  have hd := (h.d.keepsF hk (fun i e hf => (h.dx i e).2.1 hf)).below hb
  have hdx := h.dx
  have hlv := hj.own.lt
  subst hdl
  obtain ⟨g, off, rfl, -, -, -, -, hd2, -⟩ := sl_init5 hd
  refine ⟨by have := hj.below hb; rwa [List.append_assoc] at this, hd2, hu, fun i e => ?_, fun i e => ?_, by have := h.len; simp at this ⊢; omega, by have := h.dm; simp at this ⊢; omega, fun s hs => ?_, (below_keeps h.bl hk (fun i e => by rw [e]; exact h.j.ge)).trans (hb.mono (Nat.le_trans h.bl.size hk.size))⟩
  · obtain ⟨d1, d2, d3⟩ := hdx i e
    exact ⟨Nat.lt_of_lt_of_le d1 (Nat.le_trans hk.size hb.size), d2, d3⟩
  · obtain ⟨e1, e2⟩ := hv i e
    exact ⟨e2, by have := hj.lt; omega, fun e3 => by have := hlv i e3; omega⟩
  · have := h.tl s (by rw [List.append_assoc]; exact hs)
    omega
/-- A Redo that had something. -/
theorem PlI.redone {w W0 w2 W : World} {jb most k cu g o c : Nat} {lv dv : Value} {Au : Option Addr} {dl ul r : List Stp} {y : Stp} (h : PlI w W0 jb lv dv (.slice Au ul.length cu) most dl ul k) (hul : ul = y :: r) (hj : JAt w2 w.heap.size jb lv most (dl ++ ul) (dl.length + 1)) (hk : Keeps (fun k => k = jb) W0 w2) (hb : Below w2.heap.size w2 W)
    (hd : Sl W Stp.cells 5 (.slice (some ⟨g, o, none⟩) (dl.length + 1) c) (dl ++ [y])) (hg : w2.heap.size ≤ g ∧ g < W.heap.size) : ∃ gu ou, Au = some ⟨gu, ou, none⟩ ∧ PlI w W jb lv (.slice (some ⟨g, o, none⟩) (dl.length + 1) c) (.slice (if cu = 1 then some ⟨gu, ou, none⟩ else some ⟨gu, ou + 5, none⟩) r.length (cu - 1)) most (dl ++ [y]) r (k + 1) := by
  have hu := (h.u.keepsF hk (fun i e hf => (h.ux i e).2.1 hf)).below hb
  have hux := h.ux
  have hlv := hj.own.lt
  subst hul
  obtain ⟨gu, ou, rfl, -, -, -, -, hu2⟩ := sl_tl5 hu
  refine ⟨gu, ou, rfl, ?_, hd, hu2, fun i e => ?_, fun i e => ?_, by have := h.len; simp at this ⊢; omega, by have := h.dm; simp at this ⊢; omega, fun s hs => ?_, (below_keeps h.bl hk (fun i e => by rw [e]; exact h.j.ge)).trans (hb.mono (Nat.le_trans h.bl.size hk.size))⟩
  · have := hj.below hb
    rw [show dl ++ y :: r = (dl ++ [y]) ++ r by simp, show dl.length + 1 = (dl ++ [y]).length by simp] at this
    exact this
  · obtain rfl : g = i := Option.some.inj e
    exact ⟨hg.2, by have := hj.lt; omega, fun e3 => by have := hlv g e3; omega⟩
  · have e' : (Value.slice (some ⟨gu, ou, none⟩) (y :: r).length cu).ownBlock = some i := by
      split at e <;> exact e
    obtain ⟨d1, d2, d3⟩ := hux i e'
    exact ⟨Nat.lt_of_lt_of_le d1 (Nat.le_trans hk.size hb.size), d2, d3⟩
  · have := h.tl s (by rw [show dl ++ y :: r = (dl ++ [y]) ++ r by simp]; exact hs)
    omega
/-- An Undo or a Redo that had nothing. -/
theorem PlI.none_ {w W0 w2 W : World} {jb most k : Nat} {lv dv uv : Value} {dl ul : List Stp} (h : PlI w W0 jb lv dv uv most dl ul k) (hj : JAt w2 w.heap.size jb lv most (dl ++ ul) dl.length) (hk : Keeps (fun k => k = jb) W0 w2) (hb : Below w2.heap.size w2 W) : PlI w W jb lv dv uv most dl ul (k + 1) := by
  refine PlI.next ⟨hj.below hb, (h.d.keepsF hk (fun i e hf => (h.dx i e).2.1 hf)).below hb, (h.u.keepsF hk (fun i e hf => (h.ux i e).2.1 hf)).below hb, fun i e => ⟨Nat.lt_of_lt_of_le (h.dx i e).1 (Nat.le_trans hk.size hb.size), (h.dx i e).2⟩, fun i e => ⟨Nat.lt_of_lt_of_le (h.ux i e).1 (Nat.le_trans hk.size hb.size), (h.ux i e).2⟩, h.len, h.dm, h.tl, (below_keeps h.bl hk (fun i e => by rw [e]; exact h.j.ge)).trans (hb.mono (Nat.le_trans h.bl.size hk.size))⟩
end Go.Proofs.Ytkinjjgaecbogaa
