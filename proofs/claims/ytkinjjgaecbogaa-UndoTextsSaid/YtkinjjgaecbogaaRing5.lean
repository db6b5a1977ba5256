/-
  What holds at every round of the law UndoRings, and how it comes again. Conditions: none beyond the law's own.
-/
import Derived.Test.YtkinjjgaecbogaaRing4
import Derived.Test.YtkinjjgaecbogaaOpen
namespace Go.Proofs.Ytkinjjgaecbogaa
open Go.ChangeShapes Go.WideShapes Go.Deep Go.RowKit
set_option maxRecDepth 100000
/-- The struct quillwortlaw02.Kills. -/
structure Kls where
  kind : Int
  more : Int
  s : List UInt8
  deriving DecidableEq
def Kls.cells (x : Kls) : List Value := [.int .i64 x.kind, .int .i64 x.more, .string (B x.s)]
def Kls.Ok (x : Kls) : Prop := -9223372036854775808 ≤ x.kind ∧ x.kind ≤ 9223372036854775807 ∧ -9223372036854775808 ≤ x.more ∧ x.more ≤ 9223372036854775807 ∧ x.s.length ≤ 9223372036854775807
theorem kls_cells : Try.prog.cellsOf 108 = 3 := by kernel_rfl
theorem Kls.len (x : Kls) : x.cells.length = 3 := rfl
theorem kls_dec {H : Type} {enc : TypeId × Value → H} {w : World} {fuel : Nat} {cs : List Value} {d : DataW H × List MemPlace}
    (h : DataW.trod enc Try.prog w 0 (fun _ => true) true fuel 108 cs = some d) : ∃ x : Kls, cs = x.cells ∧ x.Ok := by
  obtain ⟨ys, n, _, _, hl, hyl, hf⟩ := DataW.trod_struct Try.underlying108 h
  rw [kls_cells] at hl
  match cs, hl with
  | [c0, c1, c2], _ =>
    have k0 : Try.prog.cellsOf 3 = 1 := by kernel_rfl
    have k1 : Try.prog.cellsOf 9 = 1 := by kernel_rfl
    have h0 := hf 0 _ rfl
    have h1 := hf 1 _ rfl
    have h2 := hf 2 _ rfl
    simp [k0, k1] at h0 h1 h2
    have hy0 : ys[0]? = some (ys[0]'(by rw [hyl]; decide)) := List.getElem?_eq_getElem _
    obtain ⟨m0, e0, _, w0⟩ := DataW.trod_int Try.underlying3 (h0.trans hy0)
    have b0 := bounds_i64 w0
    have hy1 : ys[1]? = some (ys[1]'(by rw [hyl]; decide)) := List.getElem?_eq_getElem _
    obtain ⟨m1, e1, _, w1⟩ := DataW.trod_int Try.underlying3 (h1.trans hy1)
    have b1 := bounds_i64 w1
    have hy2 : ys[2]? = some (ys[2]'(by rw [hyl]; decide)) := List.getElem?_eq_getElem _
    obtain ⟨s2, e2, _, w2⟩ := DataW.trod_string Try.underlying9 (h2.trans hy2)
    obtain ⟨a2, rfl⟩ := B_all s2
    rw [B_size] at w2
    simp at e0
    simp at e1
    simp at e2
    subst e0
    subst e1
    subst e2
    exact ⟨⟨m0, m1, a2⟩, rfl, b0.1, b0.2, b1.1, b1.2, w2⟩

theorem Sl.keepsF {F : Nat → Prop} {w w' : World} {α : Type} {en : α → List Value} {sz : Nat} {v : Value} {xs : List α} (h : Sl w en sz v xs) (hk : Keeps F w w') (hF : ∀ k, v.ownBlock = some k → ¬ F k) : Sl w' en sz v xs := by
  obtain ⟨A, c, rfl, h2, h3, hn, h4⟩ := h
  refine ⟨A, c, rfl, h2, h3, hn, fun h => ?_⟩
  obtain ⟨b, off, rfl, hb, hc⟩ := h4 h
  exact ⟨b, off, rfl, Nat.lt_of_lt_of_le hb hk.size, fun k x hx j u hj => (World.cell?_of_block (w := w) (hk.block b hb (hF b rfl))).trans (hc k x hx j u hj)⟩
theorem sl_tl {w : World} {g off c : Nat} {t : List UInt8} {r : List (List UInt8)} (h : Sl w strC 1 (.slice (some ⟨g, off, none⟩) (r.length + 1) c) (t :: r)) : Sl w strC 1 (.slice (if c = 1 then some ⟨g, off, none⟩ else some ⟨g, off + 1, none⟩) r.length (c - 1)) r := by
  obtain ⟨A, c', e, h2, h3, hn, h4⟩ := h
  obtain ⟨b, o, e2, hb, hc⟩ := h4 (by simp)
  subst e2
  injection e with e1 _ e3
  injection e1 with e1
  cases e1
  subst e3
  simp only [List.length_cons] at h2
  refine ⟨_, c - 1, rfl, by omega, by omega, fun h => ?_, fun h => ⟨g, off + 1, by rw [if_neg (by omega)], hb, fun k x hx j u hj => ?_⟩⟩
  · split at h <;> cases h
  · have := hc (k + 1) x hx j u hj
    rw [show off + 1 + k * 1 + j = off + (k + 1) * 1 + j by omega]
    exact this
structure RingI (w wr : World) (rb : Nat) (lv xv : Value) (ts : List (List UInt8)) (k : Nat) : Prop where
  r : RAt wr w.heap.size rb lv ts
  x : Sl wr strC 1 xv ts.reverse
  xo : ∀ j, xv.ownBlock = some j → j < wr.heap.size ∧ j ≠ rb ∧ lv.ownBlock ≠ some j
  len : ts.length ≤ 20
  tl : ∀ t ∈ ts, t.length ≤ 100 * k
  bl : Below w.heap.size w wr
theorem RingI.below {w wr W : World} {rb k : Nat} {lv xv : Value} {ts : List (List UInt8)} (h : RingI w wr rb lv xv ts k) (hb : Below wr.heap.size wr W) : RingI w W rb lv xv ts k :=
  ⟨h.r.below hb, h.x.below hb, fun j e => ⟨Nat.lt_of_lt_of_le (h.xo j e).1 hb.size, (h.xo j e).2⟩, h.len, h.tl, h.bl.trans (hb.mono h.bl.size)⟩
theorem RingI.next {w wr : World} {rb k : Nat} {lv xv : Value} {ts : List (List UInt8)} (h : RingI w wr rb lv xv ts k) : RingI w wr rb lv xv ts (k + 1) := ⟨h.r, h.x, h.xo, h.len, fun t ht => by have := h.tl t ht; omega, h.bl⟩
/-- Behind a call of the ring: the row x is as it was. -/
theorem RingI.xKept {F : Nat → Prop} {w wr W1 : World} {rb k : Nat} {lv xv : Value} {ts : List (List UInt8)} (h : RingI w wr rb lv xv ts k) (hk : Keeps F wr W1) (hF : ∀ j, F j → j = rb ∨ lv.ownBlock = some j) : Sl W1 strC 1 xv ts.reverse :=
  h.x.keepsF hk (fun j e hf => by
    obtain ⟨_, h2, h3⟩ := h.xo j e
    rcases hF j hf with e1 | e1
    · exact h2 e1
    · exact h3 e1)
theorem RingI.blK {F : Nat → Prop} {w wr W1 : World} {rb k : Nat} {lv xv : Value} {ts : List (List UInt8)} (h : RingI w wr rb lv xv ts k) (hk : Keeps F wr W1) (hF : ∀ j, F j → j = rb ∨ (lv.ownBlock = some j ∧ w.heap.size ≤ j)) : Below w.heap.size w W1 :=
  below_keeps h.bl hk (fun j hf => by
    rcases hF j hf with e | e
    · rw [e]; exact h.r.ge
    · exact e.2)
/-- The ring's call changed nothing that x tells. -/
theorem RingI.same {w wr W1 : World} {rb k : Nat} {lv lv' xv : Value} {ts : List (List UInt8)} (h : RingI w wr rb lv xv ts k) (hr : RAt W1 w.heap.size rb lv' ts) (hk : Keeps (fun j => j = rb ∨ (lv.ownBlock = some j ∧ w.heap.size ≤ j)) wr W1) (hat : lv'.ownBlock = lv.ownBlock ∨ ∀ j, lv'.ownBlock = some j → wr.heap.size ≤ j) : RingI w W1 rb lv' xv ts (k + 1) := by
  refine ⟨hr, h.xKept hk (fun j hf => hf.imp id (·.1)), fun j e => ?_, h.len, fun t ht => by have := h.tl t ht; omega, h.blK hk (fun j hf => hf)⟩
  obtain ⟨h1, h2, h3⟩ := h.xo j e
  refine ⟨Nat.lt_of_lt_of_le h1 hk.size, h2, fun e2 => ?_⟩
  rcases hat with e3 | e3
  · exact h3 (e3 ▸ e2)
  · have := e3 j e2; omega
/-- A new row x behind the ring's call. -/
theorem ringI_fresh {w W1 W2 : World} {rb k : Nat} {lv' x' : Value} {ts' : List (List UInt8)} (hr : RAt W1 w.heap.size rb lv' ts') (hb : Below w.heap.size w W1) (hb2 : Below W1.heap.size W1 W2) (hx : Sl W2 strC 1 x' ts'.reverse) (hxo : ∀ j, x'.ownBlock = some j → W1.heap.size ≤ j ∧ j < W2.heap.size) (hl : ts'.length ≤ 20) (ht : ∀ t ∈ ts', t.length ≤ 100 * (k + 1)) : RingI w W2 rb lv' x' ts' (k + 1) := by
  refine ⟨hr.below hb2, hx, fun j e => ?_, hl, ht, hb.trans (hb2.mono hb.size)⟩
  obtain ⟨h1, h2⟩ := hxo j e
  exact ⟨h2, fun e2 => by have := hr.lt; omega, fun e2 => by have := hr.own.lt j e2; omega⟩
theorem capL_len (l : List (List UInt8)) (h : l.length ≤ 21) : (capL l).length ≤ 20 := by unfold capL; rw [List.length_drop]; omega
theorem capL_mem {l : List (List UInt8)} {t : List UInt8} (h : t ∈ capL l) : t ∈ l := List.mem_of_mem_drop h
/-- The capped list, turned: the first 20. -/
theorem capL_rev (l : List (List UInt8)) : (capL l).reverse = l.reverse.take 20 := by
  unfold capL
  rw [List.reverse_drop]
  by_cases h : l.length ≤ 20
  · rw [show l.length - (l.length - 20) = l.length by omega, List.take_of_length_le (by simp), List.take_of_length_le (by simp; omega)]
  · rw [show l.length - (l.length - 20) = 20 by omega]
end Go.Proofs.Ytkinjjgaecbogaa
