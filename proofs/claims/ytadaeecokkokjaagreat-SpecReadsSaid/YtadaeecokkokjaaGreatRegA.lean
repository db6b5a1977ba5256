/-
  Layer 20's registry: names with their specs in memory; New, find, Get, Set of any name and spec. Conditions: each theorem's own.
-/
import Derived.Test.YtadaeecokkokjaaGreatSpecA
import Derived.Test.YtadaeecokkokjaaGreatNums
import Derived.Test.YtadaeecokkokjaaGreatRunA
import Derived.Test.YtadaeecokkokjaaGreatBox
import Derived.Lib.Overlaps
import Derived.Deep.RegionLaw
import Derived.Test.YtadaeecokkokjaaGreatSpecL
import Derived.Test.YtadaeecokkokjaaGreatTabPlain
set_option linter.unusedSimpArgs false
set_option linter.unusedVariables false
namespace Go.Proofs.YtadaeecokkokjaaGreat.Spc
open Go.ChangeShapes Go.WideShapes Go.Deep Go.RowKit
/-- A name and its spec, with the values of the spec's rows. -/
structure Nm where
  n : List UInt8
  va : Value
  vw : Value
  x : Sp
def namC (e : Nm) : List Value := [.string (B e.n), e.va, e.vw, .string (B e.x.g), .string (B e.x.x), .string (B e.x.p), .string (B e.x.s)]
end Go.Proofs.YtadaeecokkokjaaGreat.Spc
namespace Go.Proofs.YtadaeecokkokjaaGreat.InsN
open Go.ChangeShapes Go.WideShapes Go.Deep Go.RowKit
set_option maxRecDepth 100000
theorem en_flat (xs : List Spc.Nm) : (xs.flatMap Spc.namC).length = xs.length * 7 := by
  induction xs with
  | nil => rfl
  | cons y ys ih => rw [List.flatMap_cons, List.length_append, ih, show (Spc.namC y).length = 7 from rfl, List.length_cons]; omega
/-- What slices.Insert leaves. -/
def InsP (b0 : Nat) (lv : Value) (ys : List Spc.Nm) (w : World) (e : Ending) (w' : World) : Prop :=
  ∃ v', e = .returned v' ∧ Own w' b0 7 v' ys.length (ys.flatMap Spc.namC) ∧ Keeps (fun k => lv.ownBlock = some k ∧ b0 ≤ k) w w' ∧ (v'.ownBlock = lv.ownBlock ∨ ∀ k, v'.ownBlock = some k → w.heap.size ≤ k)
/-- 'copy(d, s)', where its run is known. -/
theorem wp_copy_r {P : Program} (w : World) {o : Oper} {a : Act} {K : Act → World → Prop} {Q : Exit → Act → World → Prop} (d s : Operand) (t t' : TypeId)
    (ho : o.op = .call { callee := .builtin .copy, args := #[d, s], argTypes := #[t, t'] }) (v u : Value) (hd : a.eval d = v) (hs : a.eval s = u) {v' : Value} {w' : World}
    (hr : (Builtin.copy_ #[t, t'] o.type #[v, u]).run P w = .ok v' w') (h : K (a.put o.dst v') w') : o.wp P a w K Q := by
  unfold Oper.wp execOp
  simp only [ho, resolve, invoke, builtin, Sem.run_bind, Sem.run_pure, Result.andThen_ok, List.map_toArray, List.map_cons, List.map_nil, hd, hs, hr]
  exact h
theorem wpList_copy_r {P : Program} (w : World) {ops : Array Oper} {rest : List Oper} {o : Oper} {a : Act} {Q : Exit → Act → World → Prop} (hgd : o.guard = none) (d s : Operand) (t t' : TypeId)
    (ho : o.op = .call { callee := .builtin .copy, args := #[d, s], argTypes := #[t, t'] }) (v u : Value) (hd : a.eval d = v) (hs : a.eval s = u) {v' : Value} {w' : World}
    (hr : (Builtin.copy_ #[t, t'] o.type #[v, u]).run P w = .ok v' w') (h : wpList P ops Q rest (a.put o.dst v') w') : wpList P ops Q (o :: rest) a w :=
  wpList_plain hgd fun _ hK => wp_copy_r w d s t t' ho v u hd hs hr (hK _ _ h)
theorem step_copy_r {P : Program} {ops : Array Oper} {o : Oper} {a : Act} {w : World} {K : Act → World → Prop} {Q : Exit → Act → World → Prop} {E : Prop}
    (hg : o.guard = none) (d x : Operand) (dT sT : TypeId) (hop : o.op = Op.call { callee := Callee.builtin Builtin.copy, args := #[d, x], argTypes := #[dT, sT] })
    (v u : Value) (hd : a.eval d = v) (hx : a.eval x = u) {v' : Value} {w' : World} (hr : (Builtin.copy_ #[dT, sT] o.type #[v, u]).run P w = .ok v' w') (hK : K (a.put o.dst v') w') :
    if Region.wanted o (yielded ops a.tmps) = true then Oper.wp P o a w K Q else E := by
  rw [if_pos (by simp [Region.wanted, hg])]
  exact wp_copy_r w d x dT sT hop v u hd hx hr hK
theorem en_take (xs : List Spc.Nm) (i : Nat) : (xs.take i).flatMap Spc.namC = (xs.flatMap Spc.namC).take (i * 7) := by
  induction xs generalizing i with
  | nil => simp
  | cons y ys ih =>
    cases i with
    | zero => simp
    | succ i => rw [List.take_succ_cons, List.flatMap_cons, ih, List.flatMap_cons, show (i + 1) * 7 = (Spc.namC y).length + i * 7 by rw [show (Spc.namC y).length = 7 from rfl]; omega, List.take_length_add_append]
theorem en_drop (xs : List Spc.Nm) (i : Nat) : (xs.drop i).flatMap Spc.namC = (xs.flatMap Spc.namC).drop (i * 7) := by
  induction xs generalizing i with
  | nil => simp
  | cons y ys ih =>
    cases i with
    | zero => simp
    | succ i => rw [List.drop_succ_cons, ih, List.flatMap_cons, show (i + 1) * 7 = (Spc.namC y).length + i * 7 by rw [show (Spc.namC y).length = 7 from rfl]; omega, List.drop_length_add_append]
theorem setCells_some (b : Nat) (vs : List Value) (o : Nat) (w : World) (h : ∀ j, j < vs.length → (w.cell? ⟨b, o + j, none⟩).isSome = true) (k : Nat) (hk : (w.cell? ⟨b, k, none⟩).isSome = true) : ((w.setCells b o vs).cell? ⟨b, k, none⟩).isSome = true := by
  by_cases hin : o ≤ k ∧ k < o + vs.length
  · have := World.cell?_setCells_in b vs o w h (k - o) (by omega)
    rw [show o + (k - o) = k by omega] at this
    rw [this]; rfl
  · rw [World.cell?_setCells_out b vs o w ⟨b, k, none⟩ (fun _ _ => by show k < o ∨ o + vs.length ≤ k; omega)]
    exact hk
theorem en_at {w : World} {vb : Nat} {cs : List Value} {t : TypeId} (hv : w.heap[vb]? = some (.cells cs.toArray t)) (j : Nat) (v : Value) (hj : cs[j]? = some v) : w.cell? ⟨vb, j, none⟩ = some v := by
  simp only [World.cell?, hv]
  simpa using hj
end Go.Proofs.YtadaeecokkokjaaGreat.InsN
namespace Go.Proofs.YtadaeecokkokjaaGreat.Spc
open Go.ChangeShapes Go.WideShapes Go.Deep Go.RowKit Tab Mc Pa
set_option maxRecDepth 100000
def nmE (e : Nm) : Ent := ⟨e.n, []⟩
def RisesN (xs : List Nm) : Prop := Rises (xs.map nmE)
end Go.Proofs.YtadaeecokkokjaaGreat.Spc
namespace Go.Proofs.YtadaeecokkokjaaGreat.Spc
open Go.ChangeShapes Go.WideShapes Go.Deep Go.RowKit Tab Mc Pa Quo
set_option maxRecDepth 100000
end Go.Proofs.YtadaeecokkokjaaGreat.Spc
namespace Go.Proofs.YtadaeecokkokjaaGreat.Spc
open Go.ChangeShapes Go.WideShapes Go.Deep Go.RowKit Tab Mc Pa Quo
set_option maxRecDepth 100000
/-- A row that lies in blocks from A to N, if it holds anything. -/
def RowIn (w : World) (A N : Nat) {α : Type} (en : α → List Value) (v : Value) (xs : List α) : Prop := Sl w en 1 v xs ∧ (0 < xs.length → ∀ k, v.ownBlock = some k → A ≤ k ∧ k < N)
/-- A name's spec, its rows in blocks from A to N, none of them the block g. -/
structure NmAt (w : World) (A N : Nat) (v : Value) (e : Nm) : Prop where
  a : RowIn w A N numC e.va e.x.a
  w : RowIn w A N strC e.vw e.x.w
  da : 0 < e.x.a.length → ∀ k, e.va.ownBlock = some k → v.ownBlock ≠ some k
  dw : 0 < e.x.w.length → ∀ k, e.vw.ownBlock = some k → v.ownBlock ≠ some k
/-- A registry in the block rb, all that is its own in blocks from A to N. -/
structure RegAt (w : World) (A N rb : Nat) (v : Value) (xs : List Nm) : Prop where
  bx : BoxN w rb [v]
  o : Own w A 7 v xs.length (xs.flatMap namC)
  s : ∀ k, v.ownBlock = some k → A ≤ k ∧ k < N
  e : ∀ e ∈ xs, NmAt w A N v e
  r : RisesN xs
  la : rb < A
  an : A ≤ N
  nw : N ≤ w.heap.size
theorem RowIn.block {w w' : World} {A N : Nat} {α : Type} {en : α → List Value} {v : Value} {xs : List α} (h : RowIn w A N en v xs) (hs : w.heap.size ≤ w'.heap.size) (hb : ∀ k, A ≤ k → k < N → w'.heap[k]? = w.heap[k]?) : RowIn w' A N en v xs := by
  obtain ⟨⟨B, c, rfl, h2, h3, h4, h5⟩, h6⟩ := h
  refine ⟨⟨B, c, rfl, h2, h3, h4, fun hp => ?_⟩, h6⟩
  obtain ⟨b, off, rfl, hlt, hc⟩ := h5 hp
  obtain ⟨g1, g2⟩ := h6 hp b rfl
  exact ⟨b, off, rfl, Nat.lt_of_lt_of_le hlt hs, fun k x hk j u hj => (World.cell?_of_block (w := w) (hb b g1 g2)).trans (hc k x hk j u hj)⟩
theorem RowIn.keepsv {F : Nat → Prop} {w w' : World} {A N : Nat} {α : Type} {en : α → List Value} {v : Value} {xs : List α} (h : RowIn w A N en v xs) (hk : Keeps F w w') (hF : 0 < xs.length → ∀ k, v.ownBlock = some k → ¬ F k) : RowIn w' A N en v xs := by
  obtain ⟨⟨B, c, rfl, h2, h3, h4, h5⟩, h6⟩ := h
  refine ⟨⟨B, c, rfl, h2, h3, h4, fun hp => ?_⟩, h6⟩
  obtain ⟨b, off, rfl, hlt, hc⟩ := h5 hp
  exact ⟨b, off, rfl, Nat.lt_of_lt_of_le hlt hk.size, fun k x hk2 j u hj => (World.cell?_of_block (w := w) (hk.block b hlt (hF hp b rfl))).trans (hc k x hk2 j u hj)⟩
theorem RowIn.mono {w : World} {A N A' N' : Nat} {α : Type} {en : α → List Value} {v : Value} {xs : List α} (h : RowIn w A N en v xs) (h1 : A' ≤ A) (h2 : N ≤ N') : RowIn w A' N' en v xs :=
  ⟨h.1, fun hp k e => by have := h.2 hp k e; omega⟩
theorem RegAt.keeps {F : Nat → Prop} {w w' : World} {A N rb : Nat} {v : Value} {xs : List Nm} (h : RegAt w A N rb v xs) (hk : Keeps F w w') (h1 : ¬ F rb) (h2 : ∀ k, A ≤ k → k < N → ¬ F k) : RegAt w' A N rb v xs :=
  ⟨h.bx.keeps hk h1, h.o.keeps hk (fun k e _ => h2 k (h.s k e).1 (h.s k e).2), h.s,
    fun e he => ⟨(h.e e he).a.keepsv hk (fun hp k q => by have := (h.e e he).a.2 hp k q; exact h2 k this.1 this.2), (h.e e he).w.keepsv hk (fun hp k q => by have := (h.e e he).w.2 hp k q; exact h2 k this.1 this.2), (h.e e he).da, (h.e e he).dw⟩,
    h.r, h.la, h.an, Nat.le_trans h.nw hk.size⟩
theorem RegAt.below {w w' : World} {A N rb : Nat} {v : Value} {xs : List Nm} (h : RegAt w A N rb v xs) (hb : Below w.heap.size w w') : RegAt w' A N rb v xs :=
  h.keeps (F := fun _ => False) (Keeps.of_below hb) (fun q => q) (fun _ _ _ q => q)
end Go.Proofs.YtadaeecokkokjaaGreat.Spc
namespace Go.Proofs.YtadaeecokkokjaaGreat.Spc
open Go.ChangeShapes Go.WideShapes Go.Deep Go.RowKit Tab Mc Pa Quo
set_option maxRecDepth 100000
end Go.Proofs.YtadaeecokkokjaaGreat.Spc
namespace Go.Proofs.YtadaeecokkokjaaGreat.Spc
open Go.ChangeShapes Go.WideShapes Go.Deep Go.RowKit Tab Mc Pa Quo
set_option maxRecDepth 100000
end Go.Proofs.YtadaeecokkokjaaGreat.Spc
namespace Go.Proofs.YtadaeecokkokjaaGreat.Spc
open Go.ChangeShapes Go.WideShapes Go.Deep Go.RowKit Tab Mc Pa Quo
set_option maxRecDepth 100000
end Go.Proofs.YtadaeecokkokjaaGreat.Spc
namespace Go.Proofs.YtadaeecokkokjaaGreat.Spc
open Go.ChangeShapes Go.WideShapes Go.Deep Go.RowKit Tab Mc Pa Quo
set_option maxRecDepth 100000
end Go.Proofs.YtadaeecokkokjaaGreat.Spc
namespace Go.Proofs.YtadaeecokkokjaaGreat.Spc
open Go.ChangeShapes Go.WideShapes Go.Deep Go.RowKit Tab Mc Pa Quo
set_option maxRecDepth 100000
end Go.Proofs.YtadaeecokkokjaaGreat.Spc
namespace Go.Proofs.YtadaeecokkokjaaGreat.Spc
open Go.ChangeShapes Go.WideShapes Go.Deep Go.RowKit Tab Mc Pa Quo
set_option maxRecDepth 100000
end Go.Proofs.YtadaeecokkokjaaGreat.Spc
namespace Go.Proofs.YtadaeecokkokjaaGreat.Spc
open Go.Lib Tab
section
variable {α : Type}
end
end Go.Proofs.YtadaeecokkokjaaGreat.Spc
namespace Go.Proofs.YtadaeecokkokjaaGreat.Spc
open Go.ChangeShapes Go.WideShapes Go.Deep Go.RowKit Tab Mc Pa Quo
set_option maxRecDepth 100000
theorem sl_one {α : Type} {w : World} {en : α → List Value} {v : Value} {xs : List α} (h : Sl w en 1 v xs) : v.oneCell' = true := by
  obtain ⟨A, c, rfl, _⟩ := h
  rfl
theorem nm_one {w : World} {e : Nm} (ha : Sl w numC 1 e.va e.x.a) (hw : Sl w strC 1 e.vw e.x.w) : ∀ u ∈ namC e, u.oneCell' = true := by
  intro u hu
  simp [namC] at hu
  rcases hu with rfl | rfl | rfl | rfl | rfl | rfl | rfl
  · rfl
  · exact sl_one ha
  · exact sl_one hw
  all_goals rfl
theorem RegAt.one {w : World} {A N rb : Nat} {v : Value} {xs : List Nm} (h : RegAt w A N rb v xs) : ∀ e ∈ xs, ∀ u ∈ namC e, u.oneCell' = true := fun e he => nm_one (h.e e he).a.1 (h.e e he).w.1
end Go.Proofs.YtadaeecokkokjaaGreat.Spc
