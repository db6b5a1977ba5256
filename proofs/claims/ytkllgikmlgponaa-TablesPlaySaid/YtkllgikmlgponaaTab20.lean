/-
  Tables against rows of entries: what holds at each round of the law TablesPlay; the order in which entries come.
-/
import Derived.Test.YtkllgikmlgponaaTab19
import Derived.Test.YtkllgikmlgponaaMid
namespace Go.Proofs.Ytkllgikmlgponaa.Tab
open Go.ChangeShapes Go.WideShapes Go.Deep Go.ChangeAt Go.RowKit
set_option maxRecDepth 100000
/-- The struct law19.Act. -/
structure TAct where
  kind : Int
  name : List UInt8
  val : List UInt8
def TAct.cells (x : TAct) : List Value := [.int .i64 x.kind, .string (B x.name), .string (B x.val)]
def TAct.Ok (x : TAct) : Prop := -9223372036854775808 ≤ x.kind ∧ x.kind ≤ 9223372036854775807 ∧ x.name.length ≤ 9223372036854775807 ∧ x.val.length ≤ 9223372036854775807
theorem tAct_cells : Try.prog.cellsOf 41 = 3 := by kernel_rfl
theorem TAct.len (x : TAct) : x.cells.length = 3 := rfl
theorem tAct_dec {H : Type} {enc : TypeId × Value → H} {w : World} {fuel : Nat} {cs : List Value} {d : DataW H × List MemPlace}
    (h : DataW.trod enc Try.prog w 0 (fun _ => true) true fuel 41 cs = some d) : ∃ x : TAct, cs = x.cells ∧ x.Ok := by
  obtain ⟨ys, n, _, _, hl, hyl, hf⟩ := DataW.trod_struct Try.underlying41 h
  rw [tAct_cells] at hl
  match cs, hl with
  | [c0, c1, c2], _ =>
    have k0 : Try.prog.cellsOf 3 = 1 := by kernel_rfl
    have k1 : Try.prog.cellsOf 9 = 1 := by kernel_rfl
    have h0 := hf 0 _ rfl
    have h1 := hf 1 _ rfl
    have h2 := hf 2 _ rfl
    simp [k0, k1] at h0 h1 h2
    have hy0 : ys[0]? = some (ys[0]'(by rw [hyl]; decide)) := List.getElem?_eq_getElem _
    obtain ⟨m0, e0, _, w0⟩ := DataW.trod_int Try.underlying3 (h0.trans hy0)
    have b0 := bounds_i64 w0
    have hy1 : ys[1]? = some (ys[1]'(by rw [hyl]; decide)) := List.getElem?_eq_getElem _
    obtain ⟨s1, e1, _, w1⟩ := DataW.trod_string Try.underlying9 (h1.trans hy1)
    obtain ⟨a1, rfl⟩ := B_all s1
    rw [B_size] at w1
    have hy2 : ys[2]? = some (ys[2]'(by rw [hyl]; decide)) := List.getElem?_eq_getElem _
    obtain ⟨s2, e2, _, w2⟩ := DataW.trod_string Try.underlying9 (h2.trans hy2)
    obtain ⟨a2, rfl⟩ := B_all s2
    rw [B_size] at w2
    simp at e0
    simp at e1
    simp at e2
    subst e0
    subst e1
    subst e2
    exact ⟨⟨m0, a1, a2⟩, rfl, b0.1, b0.2, w1, w2⟩
theorem getE_eq {xs : List Ent} (h : Rises xs) (s : List UInt8) : getE xs s = if there xs s = true then xs[place xs s]? else none := by
  unfold getE
  cases ht : there xs s with
  | true =>
    rw [if_pos rfl]
    have hp := there_lt ht
    obtain ⟨x, hxm⟩ := get_some hp
    rw [hxm]
    have hq : (x.name == s) = true := by rw [(place_name h s hxm).2.2.2 rfl]; exact ht
    refine List.find?_eq_some_iff_getElem.2 ⟨hq, place xs s, hp, (List.getElem?_eq_some_iff.1 hxm).2, fun j hj => ?_⟩
    have := ((place_name h s (List.getElem?_eq_getElem (show j < xs.length by omega))).1 hj).2
    simpa using this
  | false =>
    rw [if_neg (by simp)]
    refine List.find?_eq_none.2 fun x hx => ?_
    obtain ⟨k, hk⟩ := List.mem_iff_getElem?.1 hx
    obtain ⟨p1, p2, p3, p4⟩ := place_name h s hk
    rcases Nat.lt_trichotomy k (place xs s) with h1 | h1 | h1
    · rw [(p1 h1).2]; simp
    · rw [p4 h1, ht]; simp
    · rw [p3 h1]; simp
theorem getP_eq {xs : List Ent} (h : Rises xs) (s : List UInt8) : getP (getE xs s) = .tuple #[.string (B (valOf xs s)), .int .i64 (if there xs s = true then 1 else 0)] := by
  rw [getE_eq h]
  unfold valOf
  cases ht : there xs s with
  | true =>
    obtain ⟨x, hxm⟩ := get_some (there_lt ht)
    rw [if_pos rfl, if_pos rfl, if_pos rfl, hxm]
    rfl
  | false => rfl
/-- What the reference's Set returns, whatever the name. -/
def RefSetAll (b0 : Nat) (u : Value) (ys : List Ent) (r : Int) (w : World) (e : Ending) (w' : World) : Prop :=
  ∃ v, e = .returned (.tuple #[v, .int .i64 r]) ∧ Own w' b0 2 v ys.length (ys.flatMap Ent.cells) ∧ (v = u ∨ ∀ k, v.ownBlock = some k → w.heap.size ≤ k) ∧ Below w.heap.size w w'
theorem own_new {w w' : World} {b0 sz n : Nat} {v : Value} {xs : List Value} (h : Own w' w.heap.size sz v n xs) (hb : b0 ≤ w.heap.size) : Own w' b0 sz v n xs := h.mono hb
theorem setL_pos (xs : List Ent) (s v : List UInt8) : 0 < (setL xs s v).length := by
  unfold setL
  cases ht : there xs s with
  | true => have := there_lt ht; rw [if_pos rfl, List.length_set]; omega
  | false => rw [if_neg (by simp), List.length_append, List.length_cons]; omega
theorem refSet_all (kind : Int) (xs : List Ent) (u : Value) (s v : List UInt8) (b0 : Nat) (w : World) (hu : Own w b0 2 u xs.length (xs.flatMap Ent.cells)) (hb : b0 ≤ w.heap.size) (hr : Rises xs) (hx : xs.length < 10000) (hs : s.length ≤ 1073741824) (hv : v.length ≤ 65536) :
    Calls Try.prog 19 #[.int .i64 kind, u, .string (B s), .string (B v)] w (RefSetAll b0 u (setE kind xs s v) (setN kind s) w) := by
  unfold setE setN
  cases hm : Cls.mayB kind s with
  | false =>
    rw [if_neg (by simp), if_neg (by simp)]
    refine (refSet_bad kind u s v w hm hs).mono ?_
    rintro e w' ⟨rfl, rfl⟩
    exact ⟨u, rfl, hu, .inl rfl, Below.refl _ _⟩
  | true =>
    rw [if_pos rfl, if_pos rfl]
    refine (refSet_ok kind xs u s v w (hu.sl ent_len rfl) hr hx hm hs hv).mono ?_
    rintro e w' ⟨v', rfl, ho, hb'⟩
    exact ⟨v', rfl, ho.mono hb, .inr (own_ge ho (setL_pos _ _ _)), hb'⟩
/-- What holds at each round of TablesPlay: the table and the row have the same entries. -/
structure PlayI (w w' : World) (tb : Nat) (kind : Int) (lv u : Value) (xs : List Ent) (k : Nat) : Prop where
  t : TabAt w' w.heap.size tb lv kind xs
  o : Own w' w.heap.size 2 u xs.length (xs.flatMap Ent.cells)
  d : ∀ j, u.ownBlock = some j → lv.ownBlock ≠ some j ∧ j ≠ tb
  n : xs.length ≤ k
  b : Below w.heap.size w w'
theorem PlayI.below {w w' W : World} {tb k : Nat} {kind : Int} {lv u : Value} {xs : List Ent} (h : PlayI w w' tb kind lv u xs k) (hb : Below w'.heap.size w' W) : PlayI w W tb kind lv u xs k :=
  ⟨h.t.below hb, h.o.below hb, h.d, h.n, below_then h.b hb⟩
theorem PlayI.more {w w' : World} {tb k : Nat} {kind : Int} {lv u : Value} {xs : List Ent} (h : PlayI w w' tb kind lv u xs k) : PlayI w w' tb kind lv u xs (k + 1) :=
  ⟨h.t, h.o, h.d, by have := h.n; omega, h.b⟩
/-- A new row of the reference's, the table as it was. -/
structure PlayM (w w' : World) (tb : Nat) (kind : Int) (lv u : Value) (xs ys : List Ent) (k : Nat) : Prop where
  t : TabAt w' w.heap.size tb lv kind xs
  o : Own w' w.heap.size 2 u ys.length (ys.flatMap Ent.cells)
  d : ∀ j, u.ownBlock = some j → lv.ownBlock ≠ some j ∧ j ≠ tb
  n : xs.length ≤ k
  m : ys.length ≤ k + 1
  b : Below w.heap.size w w'
theorem PlayM.below {w w' W : World} {tb k : Nat} {kind : Int} {lv u : Value} {xs ys : List Ent} (h : PlayM w w' tb kind lv u xs ys k) (hb : Below w'.heap.size w' W) : PlayM w W tb kind lv u xs ys k :=
  ⟨h.t.below hb, h.o.below hb, h.d, h.n, h.m, below_then h.b hb⟩
theorem PlayI.set {w w1 w2 : World} {tb k : Nat} {kind : Int} {lv u v : Value} {xs ys : List Ent} (h : PlayI w w1 tb kind lv u xs k) (hm : ys.length ≤ xs.length + 1) (ho : Own w2 w.heap.size 2 v ys.length (ys.flatMap Ent.cells)) (hv : v = u ∨ ∀ k, v.ownBlock = some k → w1.heap.size ≤ k) (hb : Below w1.heap.size w1 w2) : PlayM w w2 tb kind lv v xs ys k := by
  refine ⟨h.t.below hb, ho, fun j hj => ?_, h.n, by have := h.n; omega, below_then h.b hb⟩
  rcases hv with rfl | hv
  · exact h.d j hj
  · have h1 := hv j hj
    have h2 := h.t.lt
    exact ⟨fun e => by have := h.t.own.lt j e; omega, by omega⟩
/-- The table does the same. -/
theorem PlayM.set {w w1 w2 : World} {tb k : Nat} {kind : Int} {lv lv2 u : Value} {xs ys : List Ent} (h : PlayM w w1 tb kind lv u xs ys k) (ht : TabAt w2 w.heap.size tb lv2 kind ys) (ha : lv2.ownBlock = lv.ownBlock ∨ ∀ k, lv2.ownBlock = some k → w1.heap.size ≤ k) (hk : Keeps (fun k => k = tb ∨ (lv.ownBlock = some k ∧ w.heap.size ≤ k)) w1 w2) : PlayI w w2 tb kind lv2 u ys (k + 1) := by
  refine ⟨ht, h.o.keeps hk fun j hj _ hF => ?_, fun j hj => ?_, h.m, below_keeps h.b hk fun j hF => ?_⟩
  · have := h.d j hj
    rcases hF with e | e
    · exact this.2 e
    · exact this.1 e.1
  · have h1 := h.d j hj
    refine ⟨fun e => ?_, h1.2⟩
    rcases ha with e2 | e2
    · rw [e2] at e; exact h1.1 e
    · have := e2 j e
      have := h.o.lt j hj
      omega
  · rcases hF with e | e
    · have := h.t.ge; omega
    · exact e.2
/-- The table takes away first, then the reference does. -/
theorem PlayI.unset {w w1 w2 w3 : World} {tb k : Nat} {kind : Int} {lv lv2 u v : Value} {xs ys : List Ent} (h : PlayI w w1 tb kind lv u xs k) (hl : ys.length ≤ xs.length) (ht : TabAt w2 w.heap.size tb lv2 kind ys) (hk : Keeps (fun k => k = tb ∨ (lv.ownBlock = some k ∧ w.heap.size ≤ k)) w1 w2) (ho : Own w3 w2.heap.size 2 v ys.length (ys.flatMap Ent.cells)) (hv : v.ownBlock = none ∨ ∀ k, v.ownBlock = some k → w2.heap.size ≤ k) (hb : Below w2.heap.size w2 w3) : PlayI w w3 tb kind lv2 v ys (k + 1) := by
  have hs := h.b.size
  have hs2 := hk.size
  refine ⟨ht.below hb, ho.mono (by omega), fun j hj => ?_, by have := h.n; omega, below_then (below_keeps h.b hk fun j hF => ?_) hb⟩
  · rcases hv with hv | hv
    · rw [hv] at hj; cases hj
    · have h1 := hv j hj
      have h2 := ht.lt
      exact ⟨fun e => by have := ht.own.lt j e; omega, by omega⟩
  · rcases hF with e | e
    · have := h.t.ge; omega
    · exact e.2
theorem PlayI.kept {w w1 w2 : World} {tb k : Nat} {kind : Int} {lv u : Value} {xs : List Ent} (h : PlayI w w1 tb kind lv u xs k) (hk : Keeps (fun k => k = tb ∨ (lv.ownBlock = some k ∧ w.heap.size ≤ k)) w1 w2) : Own w2 w.heap.size 2 u xs.length (xs.flatMap Ent.cells) := h.o.keeps hk fun j hj _ hF => by
  have := h.d j hj
  rcases hF with e | e
  · exact this.2 e
  · exact this.1 e.1
theorem PlayI.old {w w1 : World} {tb k : Nat} {kind : Int} {lv u : Value} {xs : List Ent} (h : PlayI w w1 tb kind lv u xs k) {W : World} (hb : Below w1.heap.size w1 W) : Own W w.heap.size 2 u xs.length (xs.flatMap Ent.cells) := h.o.below hb
end Go.Proofs.Ytkllgikmlgponaa.Tab
