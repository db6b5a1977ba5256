/-
  Patterns (layer 16): bytes, atoms; their plain laws and first walks. Conditions: as each theorem says.
-/
import Derived.Test.YtadaeecokkokjaaGreatBase
import Derived.Lib.IndexMore
import Derived.Test.YtadaeecokkokjaaGreatProg
import Derived.Test.YtadaeecokkokjaaGreatOwn
import Derived.Test.YtadaeecokkokjaaGreatHist
set_option linter.unusedSimpArgs false
set_option linter.unusedVariables false
namespace Go.Proofs.YtadaeecokkokjaaGreat.Pat
/-- An atom of a pattern. -/
inductive At where
  | byte (b : UInt8)
  | one
  | many
  | set (f : UInt8 → Bool)
def takes : At → UInt8 → Bool
  | .byte x, b => x == b
  | .one, _ => true
  | .many, _ => false
  | .set f, b => f b
/-- Some end of a text. -/
def ends (p : List UInt8 → Bool) : List UInt8 → Bool
  | [] => p []
  | c :: t => p (c :: t) || ends p t
def gm : List At → List UInt8 → Bool
  | [], s => s.isEmpty
  | .many :: l, s => ends (gm l) s
  | _ :: _, [] => false
  | a :: l, c :: t => takes a c && gm l t
/-! The walk with one star remembered. -/
/-! By the last atom. -/
/-! Rows of bytes alone. -/
end Go.Proofs.YtadaeecokkokjaaGreat.Pat
namespace Go.Proofs.YtadaeecokkokjaaGreat.Pat
/-! Words. -/
def bsum (g : Nat → Bool) : Nat → Nat
  | 0 => 0
  | n + 1 => bsum g n ||| if g n then 2 ^ n else 0
theorem testBit_bsum (g : Nat → Bool) (j : Nat) : ∀ n, (bsum g n).testBit j = (decide (j < n) && g j)
  | 0 => by simp [bsum]
  | n + 1 => by
    unfold bsum
    rw [Nat.testBit_or, testBit_bsum g j n]
    by_cases hj : j = n
    · subst hj
      cases hg : g j <;> simp
    · have h0 : (if g n = true then 2 ^ n else 0).testBit j = false := by
        split
        · rw [Nat.testBit_two_pow]; simpa using fun h => hj h.symm
        · simp
      rw [h0, Bool.or_false]
      by_cases h1 : j < n
      · rw [decide_eq_true h1, decide_eq_true (by omega)]
      · rw [decide_eq_false h1, decide_eq_false (by omega)]
/-- The i-th word of a set of bytes. -/
def wordOf (f : UInt8 → Bool) (i : Nat) : Nat := bsum (fun j => f (UInt8.ofNat (64 * i + j))) 64
theorem testBit_wordOf (f : UInt8 → Bool) (i j : Nat) (h : j < 64) : (wordOf f i).testBit j = f (UInt8.ofNat (64 * i + j)) := by
  unfold wordOf
  rw [testBit_bsum, decide_eq_true h, Bool.true_and]
theorem wordOf_hi (f : UInt8 → Bool) (i j : Nat) (h : 64 ≤ j) : (wordOf f i).testBit j = false := by
  unfold wordOf
  rw [testBit_bsum, decide_eq_false (by omega), Bool.false_and]
theorem word_ext {n : Nat} {f : UInt8 → Bool} {i : Nat} (h0 : ∀ j, 64 ≤ j → n.testBit j = false) (h : ∀ j, j < 64 → n.testBit j = f (UInt8.ofNat (64 * i + j))) : n = wordOf f i := by
  refine Nat.eq_of_testBit_eq fun j => ?_
  by_cases hj : j < 64
  · rw [h j hj, testBit_wordOf f i j hj]
  · rw [h0 j (by omega), wordOf_hi f i j (by omega)]
theorem ofNat_at {b : UInt8} {i j : Nat} (hi : i < 4) (hj : j < 64) (h : UInt8.ofNat (64 * i + j) = b) : i = b.toNat / 64 ∧ j = b.toNat % 64 := by
  subst h
  have : (UInt8.ofNat (64 * i + j)).toNat = 64 * i + j := by simp; omega
  rw [this]; omega
theorem word_same (f : UInt8 → Bool) (b : UInt8) (i : Nat) (hi : i < 4) (h : i ≠ b.toNat / 64) : wordOf f i = wordOf (fun c => f c || c == b) i := by
  refine word_ext (fun j hj => wordOf_hi _ _ _ hj) (fun j hj => ?_)
  rw [testBit_wordOf _ _ _ hj]
  have : (UInt8.ofNat (64 * i + j) == b) = false := by
    rw [beq_eq_false_iff_ne]; intro e; exact h (ofNat_at hi hj e).1
  rw [this, Bool.or_false]
/-! Classes. -/
def btw (b : UInt8) (lo hi : Int) : Bool := decide (lo ≤ (b.toNat : Int)) && decide ((b.toNat : Int) ≤ hi)
def alnumB (b : UInt8) : Bool := btw b 97 122 || btw b 65 90 || btw b 48 57
def nUpper : List UInt8 := [117, 112, 112, 101, 114]
def nLower : List UInt8 := [108, 111, 119, 101, 114]
def nAlpha : List UInt8 := [97, 108, 112, 104, 97]
def nDigit : List UInt8 := [100, 105, 103, 105, 116]
def nAlnum : List UInt8 := [97, 108, 110, 117, 109]
def nXdigit : List UInt8 := [120, 100, 105, 103, 105, 116]
def nBlank : List UInt8 := [98, 108, 97, 110, 107]
def nSpace : List UInt8 := [115, 112, 97, 99, 101]
def nCntrl : List UInt8 := [99, 110, 116, 114, 108]
def nPrint : List UInt8 := [112, 114, 105, 110, 116]
def nGraph : List UInt8 := [103, 114, 97, 112, 104]
def nPunct : List UInt8 := [112, 117, 110, 99, 116]
/-- Is a byte one of the class of this name? none: there is no such class. -/
def clsOf (name : List UInt8) (b : UInt8) : Option Bool :=
  if name == nUpper then some (btw b 65 90) else
  if name == nLower then some (btw b 97 122) else
  if name == nAlpha then some (alnumB b && decide (57 < (b.toNat : Int))) else
  if name == nDigit then some (btw b 48 57) else
  if name == nAlnum then some (alnumB b) else
  if name == nXdigit then some (btw b 48 57 || btw b 97 102 || btw b 65 70) else
  if name == nBlank then some ((b.toNat : Int) == 9 || (b.toNat : Int) == 32) else
  if name == nSpace then some (btw b 9 13 || (b.toNat : Int) == 32) else
  if name == nCntrl then some (decide ((b.toNat : Int) < 32) || (b.toNat : Int) == 127) else
  if name == nPrint then some (btw b 32 126) else
  if name == nGraph then some (btw b 33 126) else
  if name == nPunct then some (btw b 33 126 && !alnumB b) else none
def known (name : List UInt8) : Bool := (clsOf name 0).isSome
/-- The place behind a backslash, where one stands. -/
def esc (p : List UInt8) (n : Nat) : Nat := if p[n]? = some 92 then n + 1 else n
/-! Quoted texts. -/
end Go.Proofs.YtadaeecokkokjaaGreat.Pat
namespace Go.Proofs.YtadaeecokkokjaaGreat.Pat
open Go.ChangeShapes Go.WideShapes Go.Deep Go.RowKit
set_option maxRecDepth 100000
theorem ret_b {a b : Bool} (h : a = b) : Ending.returned (.bool a) = .returned (.bool b) := by rw [h]
end Go.Proofs.YtadaeecokkokjaaGreat.Pat
namespace Go.Proofs.YtadaeecokkokjaaGreat.Pat
open Go.ChangeShapes Go.WideShapes Go.Deep Go.RowKit
set_option maxRecDepth 100000
/-- A set in memory. -/
structure SetAt (w : World) (b : Nat) (f : UInt8 → Bool) : Prop where
  lt : b < w.heap.size
  c : ∀ i, i < 4 → w.cell? ⟨b, i, none⟩ = some (.int .u64 (wordOf f i : Nat))
  fr : ∀ j, w.frozen? ⟨b, j, none⟩ = false
theorem SetAt.below {w W : World} {b : Nat} {f : UInt8 → Bool} (h : SetAt w b f) (hb : Below w.heap.size w W) : SetAt W b f :=
  ⟨Nat.lt_of_lt_of_le h.lt hb.size, fun i hi => (hb.cell (p := ⟨b, i, none⟩) h.lt).trans (h.c i hi), fun j => (hb.frozen (p := ⟨b, j, none⟩) h.lt).trans (h.fr j)⟩
theorem SetAt.keeps {F : Nat → Prop} {w W : World} {b : Nat} {f : UInt8 → Bool} (h : SetAt w b f) (hk : Keeps F w W) (hF : ¬ F b) : SetAt W b f := by
  have e := hk.block b h.lt hF
  exact ⟨Nat.lt_of_lt_of_le h.lt hk.size, fun i hi => (World.cell?_of_block (w := w) e).trans (h.c i hi), fun j => (World.frozen?_of_block (w := w) e).trans (h.fr j)⟩
theorem SetAt.set {w : World} {b : Nat} {f : UInt8 → Bool} (h : SetAt w b f) (c : UInt8) : SetAt (w.setCell ⟨b, c.toNat / 64, none⟩ (.int .u64 (wordOf (fun x => f x || x == c) (c.toNat / 64) : Nat))) b (fun x => f x || x == c) := by
  refine ⟨by simpa [World.setCell] using h.lt, fun i hi => ?_, fun j => by simp only [World.frozen?_setCell]; exact h.fr j⟩
  by_cases e : i = c.toNat / 64
  · subst e
    exact World.cell?_setCell_same' _ _ _ (by rw [h.c _ hi]; rfl)
  · rw [World.cell?_setCell_other _ _ _ _ (by first | (simp; done) | (simp; exact fun h => e h.symm)), h.c i hi, word_same f c i hi e]
end Go.Proofs.YtadaeecokkokjaaGreat.Pat
namespace Go.Proofs.YtadaeecokkokjaaGreat.Pat
open Go.ChangeShapes Go.WideShapes Go.Deep Go.RowKit
set_option maxRecDepth 100000
theorem is_b {c : UInt8} {k : UInt8} {n : Int} (hn : n = (k.toNat : Int)) (h : c = k) : ((c.toNat : Int) == n) = true := by subst hn h; simp
theorem not_b {c : UInt8} {k : UInt8} {n : Int} (hn : n = (k.toNat : Int)) (h : c ≠ k) : ((c.toNat : Int) == n) = false := by
  subst hn
  rw [beq_eq_false_iff_ne]
  intro e
  exact h (UInt8.toNat_inj.1 (by omega))
theorem is_nb {c : UInt8} {k : UInt8} {n : Int} (hn : n = (k.toNat : Int)) (h : c = k) : ((c.toNat : Int) != n) = false := by rw [bne, is_b hn h]; rfl
theorem not_nb {c : UInt8} {k : UInt8} {n : Int} (hn : n = (k.toNat : Int)) (h : c ≠ k) : ((c.toNat : Int) != n) = true := by rw [bne, not_b hn h]; rfl
end Go.Proofs.YtadaeecokkokjaaGreat.Pat
