/-
  The walks of layer 16 (pattern): one byte of a set, classes named in a text. Conditions: texts of at most 2^40 bytes.
-/
import Derived.Test.YtadlaaddpobhbaaDoorPat2
namespace Go.Proofs.YtadlaaddpobhbaaDoor.Pat
open Go.ChangeShapes Go.WideShapes Go.Deep Go.RowKit
set_option maxRecDepth 100000
theorem is_b {c : UInt8} {k : UInt8} {n : Int} (hn : n = (k.toNat : Int)) (h : c = k) : ((c.toNat : Int) == n) = true := by subst hn h; simp
theorem not_b {c : UInt8} {k : UInt8} {n : Int} (hn : n = (k.toNat : Int)) (h : c ≠ k) : ((c.toNat : Int) == n) = false := by
  subst hn
  rw [beq_eq_false_iff_ne]
  intro e
  exact h (UInt8.toNat_inj.1 (by omega))
theorem is_nb {c : UInt8} {k : UInt8} {n : Int} (hn : n = (k.toNat : Int)) (h : c = k) : ((c.toNat : Int) != n) = false := by rw [bne, is_b hn h]; rfl
theorem not_nb {c : UInt8} {k : UInt8} {n : Int} (hn : n = (k.toNat : Int)) (h : c ≠ k) : ((c.toNat : Int) != n) = true := by rw [bne, not_b hn h]; rfl
def oneV (p : List UInt8) (n : Nat) : UInt8 × Nat :=
  match p[if p[n]? = some 92 then n + 1 else n]? with
  | none => (0, 0)
  | some c => (c, (if p[n]? = some 92 then n + 1 else n) + 1)
theorem oneV_none {p : List UInt8} {n m : Nat} (h : (if p[n]? = some 92 then n + 1 else n) = m) (h2 : p[m]? = none) : oneV p n = (0, 0) := by
  unfold oneV; rw [h, h2]
theorem oneV_some {p : List UInt8} {n m : Nat} {c : UInt8} (h : (if p[n]? = some 92 then n + 1 else n) = m) (h2 : p[m]? = some c) : oneV p n = (c, m + 1) := by
  unfold oneV; rw [h, h2]
end Go.Proofs.YtadlaaddpobhbaaDoor.Pat
