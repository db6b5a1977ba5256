/-
  Small laws for the law UndoPlays: a Push that may join. Conditions: none.
-/
import Derived.Test.YtkinjjgaecbogaaUndo12
namespace Go.Proofs.Ytkinjjgaecbogaa
open Go.ChangeShapes Go.WideShapes Go.Deep Go.RowKit
set_option maxRecDepth 100000
/-- A box of an edit. -/
structure EdBox (W : World) (b : Nat) (y : Ed) : Prop where
  lt : b < W.heap.size
  c0 : W.cell? ⟨b, 0, none⟩ = some (.int .i64 y.pos)
  c1 : W.cell? ⟨b, 1, none⟩ = some (.string (B y.del))
  c2 : W.cell? ⟨b, 2, none⟩ = some (.string (B y.ins))
  f : ∀ j, W.frozen? ⟨b, j, none⟩ = false
theorem EdBox.new (W : World) (t : TypeId) : EdBox (W.alloc (.cells #[.int .i64 0, .string (B []), .string (B [])] t)) W.heap.size ed0 :=
  ⟨by simp, by go_simp; rfl, by go_simp; rfl, by go_simp; rfl, fun j => by simp [go_sem]⟩
theorem EdBox.below {W W' : World} {b : Nat} {y : Ed} (h : EdBox W b y) (hb : Below W.heap.size W W') : EdBox W' b y := by
  have e := hb.block b h.lt
  exact ⟨Nat.lt_of_lt_of_le h.lt hb.size, (World.cell?_of_block (w := W) e).trans h.c0, (World.cell?_of_block (w := W) e).trans h.c1, (World.cell?_of_block (w := W) e).trans h.c2, fun j => (World.frozen?_of_block (w := W) e).trans (h.f j)⟩
theorem keeps3 (W : World) (rb : Nat) (v0 v1 v2 : Value) : Keeps (fun k => k = rb) W (((W.setCell ⟨rb, 0, none⟩ v0).setCell ⟨rb, 1, none⟩ v1).setCell ⟨rb, 2, none⟩ v2) :=
  ((Keeps.setCell (F := fun k => k = rb) W (a := ⟨rb, 0, none⟩) rfl v0).trans (Keeps.setCell (F := fun k => k = rb) _ (a := ⟨rb, 1, none⟩) rfl v1)).trans (Keeps.setCell (F := fun k => k = rb) _ (a := ⟨rb, 2, none⟩) rfl v2)
theorem EdBox.set3 {W : World} {b : Nat} {y : Ed} (h : EdBox W b y) (z : Ed) : EdBox (((W.setCell ⟨b, 0, none⟩ (.int .i64 z.pos)).setCell ⟨b, 1, none⟩ (.string (B z.del))).setCell ⟨b, 2, none⟩ (.string (B z.ins))) b z := by
  refine ⟨by simpa [World.setCell] using h.lt, ?_, ?_, ?_, fun j => by simp only [World.frozen?_setCell]; exact h.f j⟩
  · rw [World.cell?_setCell_other _ _ _ _ (by simp), World.cell?_setCell_other _ _ _ _ (by simp), World.cell?_setCell_same' _ _ _ (by rw [h.c0]; rfl)]
  · rw [World.cell?_setCell_other _ _ _ _ (by simp), World.cell?_setCell_same' _ _ _ (by rw [World.cell?_setCell_other _ _ _ _ (by simp), h.c1]; rfl)]
  · rw [World.cell?_setCell_same' _ _ _ (by rw [World.cell?_setCell_other _ _ _ _ (by simp), World.cell?_setCell_other _ _ _ _ (by simp), h.c2]; rfl)]
theorem joinS_ex (x s : Stp) : ∃ z ok, (joinS x s = some z ∧ ok = true) ∨ (joinS x s = none ∧ z = ⟨ed0, x.ahead, s.behind⟩ ∧ ok = false) := by
  cases h : joinS x s with
  | none => exact ⟨_, false, .inr ⟨rfl, rfl, rfl⟩⟩
  | some z => exact ⟨z, true, .inl ⟨rfl, rfl⟩⟩
theorem joinS_parts {x s z : Stp} {ok : Bool} (hz : (joinS x s = some z ∧ ok = true) ∨ (joinS x s = none ∧ z = ⟨ed0, x.ahead, s.behind⟩ ∧ ok = false)) : joinEV (joinE x.ed s.ed) = .tuple #[z.ed.val, .bool ok] ∧ z.ahead = x.ahead ∧ z.behind = s.behind := by
  unfold joinS at hz
  rcases hz with ⟨h, rfl⟩ | ⟨h, rfl, rfl⟩
  · cases hj : joinE x.ed s.ed with
    | none => rw [hj] at h; cases h
    | some e => rw [hj] at h; cases h; exact ⟨rfl, rfl, rfl⟩
  · cases hj : joinE x.ed s.ed with
    | none => exact ⟨rfl, rfl, rfl⟩
    | some e => rw [hj] at h; cases h
theorem pushJ_parts {b0 jb : Nat} {lv : Value} {most : Nat} {l1 : List Stp} {z : Stp} {l0 : List Stp} {s : Stp} {p : Nat} {ok : Bool} {w : World} {e : Ending} {w' : World} (h : PushJ b0 jb lv most l1 z l0 s p ok w e w') :
    e = .returned (.tuple #[]) ∧ ∃ v', (ok = true → JAt w' b0 jb v' most (l1 ++ [z]) p ∧ ∀ k, v'.ownBlock = some k → lv.ownBlock = some k ∨ w.heap.size ≤ k) ∧ (ok = false → JAt w' b0 jb v' most (keepL most (l0 ++ [s])) (keepL most (l0 ++ [s])).length) ∧ Keeps (fun k => k = jb ∨ (lv.ownBlock = some k ∧ b0 ≤ k)) w w' := by
  cases ok with
  | true => obtain ⟨he, v', hj, hk, ha⟩ := h.1 rfl; exact ⟨he, v', fun _ => ⟨hj, ha⟩, (fun h => by cases h), hk⟩
  | false => obtain ⟨he, v', hj, hk⟩ := h.2 rfl; exact ⟨he, v', (fun h => by cases h), fun _ => hj, hk⟩
/-- Behind a Push that may have joined. -/
structure JnI (w wx : World) (jb sb : Nat) (lv dv : Value) (most : Nat) (dl l1 : List Stp) (s z : Stp) (ok : Bool) : Prop where
  jy : ok = true → JAt wx w.heap.size jb lv most (l1 ++ [z]) dl.length ∧ lv.ownBlock ≠ some sb
  jn : ok = false → JAt wx w.heap.size jb lv most (keepL most (dl ++ [s])) (keepL most (dl ++ [s])).length
  d : Sl wx Stp.cells 5 dv dl
  dx : ∀ i, dv.ownBlock = some i → i < wx.heap.size ∧ i ≠ sb
  ne : sb ≠ jb
  b : StpBox wx sb s
  ge : w.heap.size ≤ sb
  bl : Below w.heap.size w wx
theorem JnI.below {w wx W : World} {jb sb most : Nat} {lv dv : Value} {dl l1 : List Stp} {s z : Stp} {ok : Bool} (h : JnI w wx jb sb lv dv most dl l1 s z ok) (hb : Below wx.heap.size wx W) : JnI w W jb sb lv dv most dl l1 s z ok :=
  ⟨fun e => ⟨(h.jy e).1.below hb, (h.jy e).2⟩, fun e => (h.jn e).below hb, h.d.below hb, fun i e => ⟨Nat.lt_of_lt_of_le (h.dx i e).1 hb.size, (h.dx i e).2⟩, h.ne, h.b.below hb, h.ge, h.bl.trans (hb.mono h.bl.size)⟩
theorem PlI.jn {w W0 w2 : World} {jb sb most k : Nat} {lv lv2 dv uv : Value} {dl ul l1 : List Stp} {s z : Stp} {ok : Bool} (h : PlI w W0 jb lv dv uv most dl ul k) (hy : StpBox W0 sb s) (h1 : sb ≠ jb) (h2 : lv.ownBlock ≠ some sb) (hsd : dv.ownBlock ≠ some sb) (hge : w.heap.size ≤ sb)
    (hjy : ok = true → JAt w2 w.heap.size jb lv2 most (l1 ++ [z]) dl.length ∧ ∀ k, lv2.ownBlock = some k → lv.ownBlock = some k ∨ W0.heap.size ≤ k) (hjn : ok = false → JAt w2 w.heap.size jb lv2 most (keepL most ((dl ++ ul).take dl.length ++ [s])) (keepL most ((dl ++ ul).take dl.length ++ [s])).length)
    (hk : Keeps (fun k => k = jb ∨ (lv.ownBlock = some k ∧ w.heap.size ≤ k)) W0 w2) : JnI w w2 jb sb lv2 dv most dl l1 s z ok := by
  obtain ⟨d, y, b, lt⟩ := h.mid hy h1 h2 hk
  rw [List.take_left' rfl] at hjn
  refine ⟨fun e => ⟨(hjy e).1, fun e2 => ?_⟩, hjn, d, fun i e => ⟨lt i e, fun e2 => hsd (by rw [e, e2])⟩, h1, y, hge, b⟩
  rcases (hjy e).2 sb e2 with e3 | e3
  · exact h2 e3
  · have := hy.lt; omega
/-- It didn't join. -/
theorem JnI.no_ {w wx : World} {jb sb most k : Nat} {lv dv : Value} {dl l1 : List Stp} {s z : Stp} (h : JnI w wx jb sb lv dv most dl l1 s z false) (hl : dl.length ≤ k) (hm : dl.length ≤ most) (ht : ∀ x ∈ dl ++ [s], x.ed.del.length ≤ 100 * (k + 1) ∧ x.ed.ins.length ≤ 100 * (k + 1)) : MidI w wx jb sb lv dv most dl s k :=
  ⟨h.jn rfl, h.d, fun i e => (h.dx i e).1, h.b, hl, hm, ht, h.bl⟩
theorem joinS_len {x s z : Stp} (h : joinS x s = some z) : z.ed.del.length ≤ x.ed.del.length + s.ed.del.length ∧ z.ed.ins.length ≤ x.ed.ins.length + s.ed.ins.length := by
  unfold joinS joinE at h
  split at h
  · cases h
  · unfold join at h
    split at h
    · cases h
    · repeat (first | split at h | (cases h; simp; omega))
/-- It joined, and the box has been set. -/
theorem JnI.yes_ {w wx : World} {jb sb most k cd : Nat} {lv : Value} {Ad : Option Addr} {dl l1 : List Stp} {x s z : Stp} (h : JnI w wx jb sb lv (.slice Ad dl.length cd) most dl l1 s z true) (hdl : dl = l1 ++ [x]) (hl : dl.length ≤ k) (hm : dl.length ≤ most) (ht : ∀ x ∈ l1 ++ [z], x.ed.del.length ≤ 100 * (k + 1) ∧ x.ed.ins.length ≤ 100 * (k + 1)) :
    MidI w (((((wx.setCell ⟨sb, 0, none⟩ (.int .i64 z.ed.pos)).setCell ⟨sb, 1, none⟩ (.string (B z.ed.del))).setCell ⟨sb, 2, none⟩ (.string (B z.ed.ins))).setCell ⟨sb, 3, none⟩ (.int .i64 z.ahead)).setCell ⟨sb, 4, none⟩ (.int .i64 z.behind)) jb sb lv (.slice Ad l1.length cd) most l1 z k := by
  have hk := keeps5 wx sb (.int .i64 z.ed.pos) (.string (B z.ed.del)) (.string (B z.ed.ins)) (.int .i64 z.ahead) (.int .i64 z.behind)
  have hb : StpBox (((((wx.setCell ⟨sb, 0, none⟩ (.int .i64 z.ed.pos)).setCell ⟨sb, 1, none⟩ (.string (B z.ed.del))).setCell ⟨sb, 2, none⟩ (.string (B z.ed.ins))).setCell ⟨sb, 3, none⟩ (.int .i64 z.ahead)).setCell ⟨sb, 4, none⟩ (.int .i64 z.behind)) sb z := Box5.set5 h.b _ _ _ _ _
  generalize (((((wx.setCell ⟨sb, 0, none⟩ (.int .i64 z.ed.pos)).setCell ⟨sb, 1, none⟩ (.string (B z.ed.del))).setCell ⟨sb, 2, none⟩ (.string (B z.ed.ins))).setCell ⟨sb, 3, none⟩ (.int .i64 z.ahead)).setCell ⟨sb, 4, none⟩ (.int .i64 z.behind)) = W at *
  obtain ⟨hj, hls⟩ := h.jy rfl
  have hd := h.d.keepsF hk (fun i e hf => (h.dx i e).2 hf)
  have hdx := h.dx
  subst hdl
  obtain ⟨g, off, rfl, -, -, -, -, hd2, -⟩ := sl_init5 hd
  have hlen : (l1 ++ [z]).length = (l1 ++ [x]).length := by simp
  refine ⟨?_, hd2, fun i e => Nat.lt_of_lt_of_le (hdx i e).1 hk.size, hb, by simp at hl; omega, by simp at hm; omega, ht, below_keeps h.bl hk (fun i e => by rw [e]; exact h.ge)⟩
  rw [keepL_few (by rw [hlen]; exact hm), hlen]
  exact hj.keeps hk (fun e => h.ne e.symm) (fun i e hf => hls (by rw [e, hf]))

/-- The cells that a join reads. -/
theorem JnI.loads {w wx : World} {jb sb most ga oa cd : Nat} {lv : Value} {dl l1 : List Stp} {x s z : Stp} {ok : Bool} (h : JnI w wx jb sb lv (.slice (some ⟨ga, oa, none⟩) dl.length cd) most dl l1 s z ok) (hdl : dl = l1 ++ [x]) :
    (wx.cell? ⟨ga, oa + l1.length * 5, none⟩ = some (.int .i64 x.ed.pos) ∧ wx.cell? ⟨ga, oa + l1.length * 5 + 1, none⟩ = some (.string (B x.ed.del)) ∧ wx.cell? ⟨ga, oa + l1.length * 5 + 2, none⟩ = some (.string (B x.ed.ins))) ∧ (wx.cell? ⟨sb, 0, none⟩ = some (.int .i64 s.ed.pos) ∧ wx.cell? ⟨sb, 1, none⟩ = some (.string (B s.ed.del)) ∧ wx.cell? ⟨sb, 2, none⟩ = some (.string (B s.ed.ins))) := by
  have hd := h.d
  have hb := h.b.loads
  subst hdl
  obtain ⟨g, off, e, -, -, -, -, -, c0, c1, c2, c3, c4⟩ := sl_init5 hd
  cases e
  exact ⟨⟨c0, c1, c2⟩, hb.1, hb.2.1, hb.2.2.1⟩
theorem JnI.loads2 {w wx : World} {jb sb most ga oa cd : Nat} {lv : Value} {dl l1 : List Stp} {x s z : Stp} {ok : Bool} (h : JnI w wx jb sb lv (.slice (some ⟨ga, oa, none⟩) dl.length cd) most dl l1 s z ok) (hdl : dl = l1 ++ [x]) :
    (wx.cell? ⟨ga, oa + l1.length * 5, none⟩ = some (.int .i64 x.ed.pos) ∧ wx.cell? ⟨ga, oa + l1.length * 5 + 1, none⟩ = some (.string (B x.ed.del)) ∧ wx.cell? ⟨ga, oa + l1.length * 5 + 2, none⟩ = some (.string (B x.ed.ins)) ∧ wx.cell? ⟨ga, oa + l1.length * 5 + 3, none⟩ = some (.int .i64 x.ahead)) ∧ (wx.cell? ⟨sb, 0, none⟩ = some (.int .i64 s.ed.pos) ∧ wx.cell? ⟨sb, 1, none⟩ = some (.string (B s.ed.del)) ∧ wx.cell? ⟨sb, 2, none⟩ = some (.string (B s.ed.ins)) ∧ wx.cell? ⟨sb, 3, none⟩ = some (.int .i64 s.ahead) ∧ wx.cell? ⟨sb, 4, none⟩ = some (.int .i64 s.behind)) := by
  have hd := h.d
  have hb := h.b.loads
  subst hdl
  obtain ⟨g, off, e, -, -, -, -, -, c0, c1, c2, c3, c4⟩ := sl_init5 hd
  cases e
  exact ⟨⟨c0, c1, c2, c3⟩, hb⟩
theorem JnI.at_ {w wx : World} {jb sb most : Nat} {lv dv : Value} {dl l1 : List Stp} {s z : Stp} {ok : Bool} (h : JnI w wx jb sb lv dv most dl l1 s z ok) : ∃ l p, JAt wx w.heap.size jb lv most l p := by
  cases ok with
  | true => exact ⟨_, _, (h.jy rfl).1⟩
  | false => exact ⟨_, _, h.jn rfl⟩
/-- A block that is new. -/
def FreshJ (w : World) (jb sb : Nat) (lv dv : Value) (eb : Nat) : Prop := jb ≠ eb ∧ sb ≠ eb ∧ (∀ i, lv.ownBlock = some i → i ≠ eb) ∧ (∀ i, dv.ownBlock = some i → i ≠ eb) ∧ w.heap.size ≤ eb
theorem JnI.fresh {w wx : World} {jb sb most : Nat} {lv dv : Value} {dl l1 : List Stp} {s z : Stp} {ok : Bool} (h : JnI w wx jb sb lv dv most dl l1 s z ok) : FreshJ w jb sb lv dv wx.heap.size := by
  obtain ⟨l, p, hj⟩ := h.at_
  exact ⟨Nat.ne_of_lt hj.lt, Nat.ne_of_lt h.b.lt, fun i e => Nat.ne_of_lt (hj.own.lt i e), fun i e => Nat.ne_of_lt (h.dx i e).1, h.bl.size⟩
theorem JnI.keeps {w wx W : World} {jb sb most eb : Nat} {lv dv : Value} {dl l1 : List Stp} {s z : Stp} {ok : Bool} (h : JnI w wx jb sb lv dv most dl l1 s z ok) (hk : Keeps (fun k => k = eb) wx W) (hf : FreshJ w jb sb lv dv eb) : JnI w W jb sb lv dv most dl l1 s z ok := by
  obtain ⟨f1, f2, f3, f4, f5⟩ := hf
  exact ⟨fun e => ⟨(h.jy e).1.keeps hk f1 (fun i e hf => f3 i e hf), (h.jy e).2⟩, fun e => (h.jn e).keeps hk f1 (fun i e hf => f3 i e hf), h.d.keepsF hk (fun i e hf => f4 i e hf), fun i e => ⟨Nat.lt_of_lt_of_le (h.dx i e).1 hk.size, (h.dx i e).2⟩, h.ne, h.b.keeps hk f2, h.ge, below_keeps h.bl hk (fun i e => by rw [e]; exact f5)⟩
end Go.Proofs.Ytkinjjgaecbogaa
