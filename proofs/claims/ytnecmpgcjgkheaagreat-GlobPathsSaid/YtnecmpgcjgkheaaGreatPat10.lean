/-
  The walks of layer 16 (pattern): the set at a place, by the program. Conditions: texts of at most 2^30 bytes; the library's variable MaxLen holds some number.
-/
import Derived.Test.YtnecmpgcjgkheaaGreatPat9
set_option linter.unusedSimpArgs false
set_option linter.unusedVariables false
namespace Go.Proofs.YtnecmpgcjgkheaaGreat.Pat
open Go.ChangeShapes Go.WideShapes Go.Deep Go.RowKit
set_option maxRecDepth 100000
def brF (p : List UInt8) (n : Nat) : UInt8 → Bool := match brAt p n with
  | none => fun _ => false
  | some x => x.1
def brE (p : List UInt8) (n : Nat) : Nat := match brAt p n with
  | none => 0
  | some x => x.2
def BrP (p : List UInt8) (n : Nat) (w : World) (e : Ending) (w' : World) : Prop := e = .returned (.tuple #[setV (brF p n), .int .i64 (brE p n)]) ∧ Below w.heap.size w w'
theorem setV0 : setV (fun _ => false) = .agg #[.int .u64 0, .int .u64 0, .int .u64 0, .int .u64 0] := by simp [setV, word_zero]
theorem BrP.none_ {p : List UInt8} {n : Nat} {w w' : World} (h : brAt p n = none) (hb : Below w.heap.size w w') : BrP p n w (.returned (.tuple #[.agg #[.int .u64 0, .int .u64 0, .int .u64 0, .int .u64 0], .int .i64 0])) w' := by
  have h1 : brF p n = fun _ => false := by unfold brF; rw [h]
  have h2 : brE p n = 0 := by unfold brE; rw [h]
  exact ⟨by rw [h1, h2, setV0]; rfl, hb⟩
theorem BrP.some_ {p : List UInt8} {n e : Nat} {g : UInt8 → Bool} {w w' : World} {y : Int} (h : brAt p n = some (g, e)) (hy : y = e) (hb : Below w.heap.size w w') : BrP p n w (.returned (.tuple #[setV g, .int .i64 y])) w' := by
  have h1 : brF p n = g := by unfold brF; rw [h]
  have h2 : brE p n = e := by unfold brE; rw [h]
  exact ⟨by rw [h1, h2, hy], hb⟩
theorem SetAt.new (W : World) (t : TypeId) : SetAt (W.alloc (.cells #[.int .u64 0, .int .u64 0, .int .u64 0, .int .u64 0] t)) W.heap.size (fun _ => false) := by
  refine ⟨by simp, fun i hi => ?_, fun j => by simp [go_sem]⟩
  rw [word_zero]
  match i, hi with
  | 0, _ => go_simp
  | 1, _ => go_simp
  | 2, _ => go_simp
  | 3, _ => go_simp
theorem SetAt.loads {w : World} {b : Nat} {f : UInt8 → Bool} (h : SetAt w b f) : w.cell? ⟨b, 0, none⟩ = some (.int .u64 (wordOf f 0 : Nat)) ∧ w.cell? ⟨b, 1, none⟩ = some (.int .u64 (wordOf f 1 : Nat)) ∧ w.cell? ⟨b, 2, none⟩ = some (.int .u64 (wordOf f 2 : Nat)) ∧ w.cell? ⟨b, 3, none⟩ = some (.int .u64 (wordOf f 3 : Nat)) :=
  ⟨h.c 0 (by omega), h.c 1 (by omega), h.c 2 (by omega), h.c 3 (by omega)⟩
/-- A set of which k words have been turned. -/
structure MixAt (w : World) (b : Nat) (f g : UInt8 → Bool) (k : Nat) : Prop where
  lt : b < w.heap.size
  c : ∀ i, i < 4 → w.cell? ⟨b, i, none⟩ = some (.int .u64 (wordOf (if i < k then g else f) i : Nat))
  fr : ∀ j, w.frozen? ⟨b, j, none⟩ = false
theorem SetAt.mix {w : World} {b : Nat} {f g : UInt8 → Bool} (h : SetAt w b f) : MixAt w b f g 0 := ⟨h.lt, fun i hi => by rw [if_neg (by omega)]; exact h.c i hi, h.fr⟩
theorem MixAt.done {w : World} {b : Nat} {f g : UInt8 → Bool} (h : MixAt w b f g 4) : SetAt w b g := ⟨h.lt, fun i hi => by have := h.c i hi; rwa [if_pos hi] at this, h.fr⟩
theorem MixAt.step {w : World} {b k : Nat} {f g : UInt8 → Bool} (h : MixAt w b f g k) (hk : k < 4) : MixAt (w.setCell ⟨b, k, none⟩ (.int .u64 (wordOf g k : Nat))) b f g (k + 1) := by
  refine ⟨by simpa [World.setCell] using h.lt, fun i hi => ?_, fun j => by simp only [World.frozen?_setCell]; exact h.fr j⟩
  by_cases e : i = k
  · subst e
    rw [World.cell?_setCell_same' _ _ _ (by rw [h.c _ hi]; rfl), if_pos (by omega)]
  · rw [World.cell?_setCell_other _ _ _ _ (by first | (simp; done) | (simp; exact fun h => e h.symm)), h.c i hi]
    by_cases h1 : i < k
    · rw [if_pos h1, if_pos (by omega)]
    · rw [if_neg h1, if_neg (by omega)]
theorem xorbit (f : UInt8 → Bool) (k : Nat) : Go.bits .xor .u64 (if IntKind.u64.signed = true then -1 else IntKind.u64.max) ((wordOf f k : Nat) : Int) = ((wordOf (fun c => !f c) k : Nat) : Int) := by
  have := bits_xor_u64_nat 18446744073709551615 (wordOf f k) (by omega) (wordOf_lt _ _)
  rw [word_not] at this
  exact this
end Go.Proofs.YtnecmpgcjgkheaaGreat.Pat
