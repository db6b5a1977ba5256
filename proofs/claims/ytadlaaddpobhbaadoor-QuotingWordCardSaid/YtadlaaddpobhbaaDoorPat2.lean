/-
  The walks of layer 16 (pattern): sets of bytes. Conditions: none.
-/
import Derived.Test.YtadlaaddpobhbaaDoorPat
import Derived.Test.YtadlaaddpobhbaaDoorTail
namespace Go.Proofs.YtadlaaddpobhbaaDoor.Pat
open Go.ChangeShapes Go.WideShapes Go.Deep Go.RowKit
set_option maxRecDepth 100000
/-- A set in memory. -/
structure SetAt (w : World) (b : Nat) (f : UInt8 → Bool) : Prop where
  lt : b < w.heap.size
  c : ∀ i, i < 4 → w.cell? ⟨b, i, none⟩ = some (.int .u64 (wordOf f i : Nat))
  fr : ∀ j, w.frozen? ⟨b, j, none⟩ = false
theorem SetAt.below {w W : World} {b : Nat} {f : UInt8 → Bool} (h : SetAt w b f) (hb : Below w.heap.size w W) : SetAt W b f :=
  ⟨Nat.lt_of_lt_of_le h.lt hb.size, fun i hi => (hb.cell (p := ⟨b, i, none⟩) h.lt).trans (h.c i hi), fun j => (hb.frozen (p := ⟨b, j, none⟩) h.lt).trans (h.fr j)⟩
theorem SetAt.keeps {F : Nat → Prop} {w W : World} {b : Nat} {f : UInt8 → Bool} (h : SetAt w b f) (hk : Keeps F w W) (hF : ¬ F b) : SetAt W b f := by
  have e := hk.block b h.lt hF
  exact ⟨Nat.lt_of_lt_of_le h.lt hk.size, fun i hi => (World.cell?_of_block (w := w) e).trans (h.c i hi), fun j => (World.frozen?_of_block (w := w) e).trans (h.fr j)⟩
theorem SetAt.set {w : World} {b : Nat} {f : UInt8 → Bool} (h : SetAt w b f) (c : UInt8) : SetAt (w.setCell ⟨b, c.toNat / 64, none⟩ (.int .u64 (wordOf (fun x => f x || x == c) (c.toNat / 64) : Nat))) b (fun x => f x || x == c) := by
  refine ⟨by simpa [World.setCell] using h.lt, fun i hi => ?_, fun j => by simp only [World.frozen?_setCell]; exact h.fr j⟩
  by_cases e : i = c.toNat / 64
  · subst e
    exact World.cell?_setCell_same' _ _ _ (by rw [h.c _ hi]; rfl)
  · rw [World.cell?_setCell_other _ _ _ _ (by first | (simp; done) | (simp; exact fun h => e h.symm)), h.c i hi, word_same f c i hi e]
def setV (f : UInt8 → Bool) : Value := .agg #[.int .u64 (wordOf f 0 : Nat), .int .u64 (wordOf f 1 : Nat), .int .u64 (wordOf f 2 : Nat), .int .u64 (wordOf f 3 : Nat)]
theorem and63 (c : UInt8) : Go.bits .and .u8 (c.toNat : Int) 63 = ((c.toNat % 64 : Nat) : Int) := by
  have := bits_mask .u8 8 (by decide) (fun n h0 h1 => wraps_u8 n h0 h1) 6 (by decide) (c.toNat : Int) (by omega) (by have := c.toNat_lt; omega)
  have h2 : ((2 : Int) ^ 6 - 1) = 63 := by decide
  rw [h2] at this
  rw [this]; rfl
theorem hasbit (f : UInt8 → Bool) (c : UInt8) : Go.bits .and .u64 (((wordOf f (c.toNat / 64) : Nat) : Int) / 2 ^ (c.toNat % 64)) 1 = if f c then 1 else 0 := by
  have h := bits_and_u64_nat (wordOf f (c.toNat / 64) / 2 ^ (c.toNat % 64)) 1 (Nat.lt_of_le_of_lt (Nat.div_le_self _ _) (wordOf_lt _ _)) (by decide)
  have e : (((wordOf f (c.toNat / 64) : Nat) : Int) / 2 ^ (c.toNat % 64)) = ((wordOf f (c.toNat / 64) / 2 ^ (c.toNat % 64) : Nat) : Int) := by simp
  rw [e]
  show Go.bits .and .u64 _ ((1 : Nat) : Int) = _
  rw [h, Nat.and_one_is_mod, word_has]
  split <;> rfl
theorem words_get (f : UInt8 → Bool) (c : UInt8) : [Value.int .u64 (wordOf f 0 : Nat), .int .u64 (wordOf f 1 : Nat), .int .u64 (wordOf f 2 : Nat), .int .u64 (wordOf f 3 : Nat)][c.toNat / 64]? = some (.int .u64 (wordOf f (c.toNat / 64) : Nat)) := by
  have h : c.toNat / 64 < 4 := by have := c.toNat_lt; omega
  generalize c.toNat / 64 = i at *
  match i, h with
  | 0, _ => rfl
  | 1, _ => rfl
  | 2, _ => rfl
  | 3, _ => rfl
theorem shl1 (k : Nat) (h : k < 64) : IntKind.u64.wrap (2 ^ k) = (2 ^ k : Int) := by
  rw [IntKind.wrap_u64]
  have : 2 ^ k < 2 ^ 64 := Nat.pow_lt_pow_right (by omega) h
  have e : ((2 : Int) ^ k) = ((2 ^ k : Nat) : Int) := by simp
  rw [e]
  generalize (2 : Nat) ^ k = q at *
  omega
theorem orbit (f : UInt8 → Bool) (c : UInt8) : Go.bits .or .u64 ((wordOf f (c.toNat / 64) : Nat) : Int) (2 ^ (c.toNat % 64) : Int) = ((wordOf (fun x => f x || x == c) (c.toNat / 64) : Nat) : Int) := by
  have h64 : 2 ^ (c.toNat % 64) < 2 ^ 64 := Nat.pow_lt_pow_right (by omega) (by omega)
  have e : ((2 : Int) ^ (c.toNat % 64)) = ((2 ^ (c.toNat % 64) : Nat) : Int) := by simp
  rw [e, bits_or_u64_nat _ _ (wordOf_lt _ _) (by omega), word_add]
end Go.Proofs.YtadlaaddpobhbaaDoor.Pat
