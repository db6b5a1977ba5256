/-
  The walk of layer 27 (glob): what components lead to. Conditions: components and paths of at most 1000 bytes; the library's variable MaxLen holds some number.
-/
import Derived.Test.YtnecmpgcjgkheaaGreatGlob2
set_option linter.unusedSimpArgs false
set_option linter.unusedVariables false
namespace Go.Proofs.YtnecmpgcjgkheaaGreat.Glob
open Go.ChangeShapes Go.WideShapes Go.Deep Go.RowKit Fil Pat
attribute [local go_sem] Oper.semAt_some
set_option maxRecDepth 100000
/-- A walker in memory: its tree, its components. -/
structure WkAt (w0 : World) (b0 tb : Nat) (x : List Fl) (nb : List (List UInt8) → Nat) (mp : List (List UInt8) → Option Nat) (wk gb off c : Nat) (parts : List (List UInt8)) (W : World) : Prop where
  t : TreeAt w0 b0 tb x nb mp
  m : MaxL w0
  b : Below w0.heap.size w0 W
  ct : W.cell? ⟨wk, 0, none⟩ = some (.pointer (some ⟨tb, 0, none⟩))
  cs : W.cell? ⟨wk, 1, none⟩ = some (.slice (some ⟨gb, off, none⟩) parts.length c)
  ps : ∀ k p, parts[k]? = some p → W.cell? ⟨gb, off + k, none⟩ = some (.string (B p))
section
variable {w0 W W' : World} {b0 tb wk gb off c : Nat} {x : List Fl} {nb : List (List UInt8) → Nat} {mp : List (List UInt8) → Option Nat} {parts : List (List UInt8)}
theorem WkAt.below (h : WkAt w0 b0 tb x nb mp wk gb off c parts W) (hb : Below W.heap.size W W') : WkAt w0 b0 tb x nb mp wk gb off c parts W' :=
  have q := fun {k o : Nat} {v : Value} (e : W.cell? ⟨k, o, none⟩ = some v) => (hb.cell (p := ⟨k, o, none⟩) (World.block_lt_of_cell? W _ e)).trans e
  ⟨h.t, h.m, below_then h.b hb, q h.ct, q h.cs, fun k p e => q (h.ps k p e)⟩
theorem WkAt.kc {F F' : Nat → Prop} (h : WkAt w0 b0 tb x nb mp wk gb off c parts W) (hk : KcQ w0.heap.size F F' W W') (h1 : ¬ F wk) (h2 : ¬ F gb) : WkAt w0 b0 tb x nb mp wk gb off c parts W' :=
  ⟨h.t, h.m, h.b.trans hk.low, hk.cell h.ct h1, hk.cell h.cs h1, fun k p e => hk.cell (h.ps k p e) h2⟩
end
/-- What a walk from a component on does. -/
def WalkP (A1 N : Nat) (J Jx : List (List UInt8) → (Nat → Prop) → World → Prop) (xs out : List (List UInt8)) (F : Nat → Prop) (W : World) (e : Ending) (W' : World) : Prop :=
  ∃ F', KpQ A1 N F F' W W' ∧ ((e = .returned (.bool true) ∧ J out F' W') ∨ (e = .returned (.bool false) ∧ ∃ q, q <+: xs ∧ Jx q F' W'))
/-- The walk's boxes. -/
structure FrW (H wk : Nat) (text : List UInt8) (i l : Nat) (la : Bool) (W : World) : Prop where
  c0 : W.cell? ⟨H, 0, none⟩ = some (.pointer (some ⟨wk, 0, none⟩))
  c1 : W.cell? ⟨H + 1, 0, none⟩ = some (.string (B text))
  c2 : W.cell? ⟨H + 1 + 1, 0, none⟩ = some (.int .i64 i)
  c3 : W.cell? ⟨H + 1 + 1 + 1, 0, none⟩ = some (.func (.yield l) #[] #[])
  c4 : ∃ v, W.cell? ⟨H + 1 + 1 + 1 + 1, 0, none⟩ = some v
  f4 : W.frozen? ⟨H + 1 + 1 + 1 + 1, 0, none⟩ = false
  c5 : W.cell? ⟨H + 1 + 1 + 1 + 1 + 1, 0, none⟩ = some (.bool la)
theorem _root_.Go.Proofs.YtnecmpgcjgkheaaGreat.KcQ.frozen {N : Nat} {F F' : Nat → Prop} {W W' : World} (h : KcQ N F F' W W') {b o : Nat} {v : Value} (hc : W.cell? ⟨b, o, none⟩ = some v) (hF : ¬ F b) : W'.frozen? ⟨b, o, none⟩ = W.frozen? ⟨b, o, none⟩ := by
  obtain ⟨x, h1, h2⟩ := cells_of_cell hc
  exact World.frozen?_of_block (w := W) ((h.cells b x h1 h2 hF).trans h1.symm)
section
variable {H wk i l N : Nat} {text : List UInt8} {la : Bool} {W W' : World} {F F' : Nat → Prop}
theorem FrW.kc (h : FrW H wk text i l la W) (hk : KcQ N F F' W W') (hF : ∀ k, H ≤ k → k < H + 6 → ¬ F k) : FrW H wk text i l la W' := by
  obtain ⟨v, h4⟩ := h.c4
  exact ⟨hk.cell h.c0 (hF _ (by omega) (by omega)), hk.cell h.c1 (hF _ (by omega) (by omega)), hk.cell h.c2 (hF _ (by omega) (by omega)), hk.cell h.c3 (hF _ (by omega) (by omega)), ⟨v, hk.cell h4 (hF _ (by omega) (by omega))⟩,
    (hk.frozen h4 (hF _ (by omega) (by omega))).trans h.f4, hk.cell h.c5 (hF _ (by omega) (by omega))⟩
theorem FrW.below (h : FrW H wk text i l la W) (hb : Below W.heap.size W W') : FrW H wk text i l la W' := h.kc (KcQ.of_below (N := 0) (F := fun _ => False) hb (Nat.zero_le _)) (fun _ _ _ q => q)
theorem FrW.lull {A : Nat} (h : FrW H wk text i l la W) (hL : Lull A W W') : FrW H wk text i l la W' :=
  ⟨hL.cell h.c0, hL.cell h.c1, hL.cell h.c2, hL.cell h.c3, h.c4.imp fun v e => hL.cell e, (h.c4.elim fun v e => hL.frozen e).trans h.f4, hL.cell h.c5⟩
end
/-- A store to what is new. -/
theorem _root_.Go.Proofs.YtnecmpgcjgkheaaGreat.KpQ.setNew {A N b : Nat} {F F' : Nat → Prop} {W X : World} (h : KpQ A N F F' W X) (hb : W.heap.size ≤ b) (hN : N ≤ W.heap.size) (v : Value) : KpQ A N F F' W (X.setCell ⟨b, 0, none⟩ v) := by
  have hS := Keeps.setCell (F := fun k => k = b) X (a := ⟨b, 0, none⟩) rfl v
  have hl := h.low.size
  refine ⟨⟨h.low.trans (hS.below (by omega) (fun k e => by omega)), fun k o hk ho hf => ?_, h.new⟩, Nat.le_trans hl hS.size, fun k o hA hk ho => ?_⟩
  · have := lt_of_get hk
    exact (hS.block k (by omega) (by omega)).trans (h.cells k o hk ho hf)
  · have := lt_of_get hk
    exact (hS.block k (by omega) (by omega)).trans (h.recs.same k o hA hk ho)
def frameW (wk : Nat) (text : List UInt8) (i l : Nat) (la : Bool) (W : World) : World :=
  ((((((W.alloc (.cells #[.pointer (some ⟨wk, 0, none⟩)] 49)).alloc (.cells #[.string (B text)] 9)).alloc (.cells #[.int .i64 i] 3)).alloc (.cells #[.func (.yield l) #[] #[]] 43)).alloc (.cells #[.bool false] 4)).alloc (.cells #[.bool la] 4)).drew
theorem frameW_fr (wk : Nat) (text : List UInt8) (i l : Nat) (la : Bool) (W : World) : FrW W.heap.size wk text i l la (frameW wk text i l la W) := by
  unfold frameW
  exact ⟨by go_simp, by go_simp, by go_simp, by go_simp, ⟨.bool false, by go_simp⟩, by simp [go_sem], by go_simp⟩
theorem frameW_below (wk : Nat) (text : List UInt8) (i l : Nat) (la : Bool) (W : World) : Below W.heap.size W (frameW wk text i l la W) := by
  unfold frameW
  (repeat (first | with_reducible exact Below.refl _ _ | with_reducible assumption | with_reducible refine below_alloc ?_ _ | with_reducible refine below_grow ?_ _ | with_reducible refine below_drewN ?_ _ | with_reducible refine below_drew ?_ | with_reducible refine below_setCell ?_ (by first | (dsimp only; omega) | (simp; done) | (simp; omega)) _))
theorem next_at {w0 W : World} {b0 tb wk : Nat} {x : List Fl} {nb : List (List UInt8) → Nat} {mp : List (List UInt8) → Option Nat} {part dir : List UInt8} (t : TreeAt w0 b0 tb x nb mp) (m : MaxL w0) (b : Below w0.heap.size w0 W) (ct : W.cell? ⟨wk, 0, none⟩ = some (.pointer (some ⟨tb, 0, none⟩))) :
    Calls Tryz.prog 45 #[.pointer (some ⟨wk, 0, none⟩), .string (B dir), .string (B part)] W fun e w' =>
      e = .returned (.func (.func 66) #[] #[.pointer (some ⟨W.heap.size + 1 + 1, 0, none⟩), .pointer (some ⟨W.heap.size + 1, 0, none⟩), .pointer (some ⟨W.heap.size, 0, none⟩)]) ∧
      Below W.heap.size W w' ∧ NxAt w0 b0 tb x nb mp (W.heap.size + 1 + 1) (W.heap.size + 1) W.heap.size wk part dir w' := by
  refine (next_any wk dir part W).mono ?_
  rintro e w' ⟨rfl, rfl⟩
  have hb : Below W.heap.size W (((W.alloc (.cells #[.pointer (some ⟨wk, 0, none⟩)] 49)).alloc (.cells #[.string (B dir)] 9)).alloc (.cells #[.string (B part)] 9)) := by (repeat (first | with_reducible exact Below.refl _ _ | with_reducible assumption | with_reducible refine below_alloc ?_ _ | with_reducible refine below_grow ?_ _ | with_reducible refine below_drewN ?_ _ | with_reducible refine below_drew ?_ | with_reducible refine below_setCell ?_ (by first | (dsimp only; omega) | (simp; done) | (simp; omega)) _))
  exact ⟨rfl, hb, t, m, below_then b hb, by go_simp, by go_simp, by go_simp, (hb.cell (p := ⟨wk, 0, none⟩) (World.block_lt_of_cell? W _ ct)).trans ct⟩
end Go.Proofs.YtnecmpgcjgkheaaGreat.Glob
