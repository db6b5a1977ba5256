/-
  The walks of layers 5 and 9 (operators, tokens): operators, one token of a text. Conditions: as each says.
-/
import Derived.Test.YtadaeecokkokjaaGreatDoorModA
set_option linter.unusedSimpArgs false
set_option linter.unusedVariables false
/-
  The walks of layer 5's reference (oper), and of a part of layer 9's (token): operators, blanks. Conditions: texts of at most 2^29 bytes.
-/
namespace Go.Proofs.YtadaeecokkokjaaGreatDoor.Lx
set_option linter.unusedSimpArgs false
set_option linter.unusedVariables false
open Go.ChangeShapes Go.WideShapes Go.Deep Go.RowKit Cls
set_option maxRecDepth 100000
def allOps : List UInt8 := [38, 38, 32, 124, 124, 32, 59, 59, 32, 60, 60, 32, 60, 60, 45, 62, 62, 32, 60, 38, 32, 62, 38, 32, 60, 62, 32, 62, 124, 32, 60, 32, 32, 62, 32, 32, 38, 32, 32, 59, 32, 32, 124, 32, 32, 40, 32, 32, 41, 32, 32]
/-- A text without the blanks at its end. -/
def rtrim (l : List UInt8) : List UInt8 := (l.reverse.dropWhile (· == 32)).reverse
def opT (n : Nat) : List UInt8 := if n = 0 then [] else rtrim ((allOps.take (3 * n)).drop (3 * (n - 1)))
/-- The operator at the beginning of a text: of the first ones, the longest. -/
def opK (l : List UInt8) : Nat → Nat
  | 0 => 0
  | n + 1 => if (decide ((opT (n + 1)).length ≤ l.length) && (l.take (opT (n + 1)).length == opT (n + 1)) && decide ((opT (opK l n)).length < (opT (n + 1)).length)) = true then n + 1 else opK l n
def opL (l : List UInt8) : Nat := opK l 17
end Go.Proofs.YtadaeecokkokjaaGreatDoor.Lx
/-
  The walks of layer 9's reference (token), in part: blanks, one token from a state in which nothing is awaited. Conditions: texts of at most 2^29 bytes.
-/
namespace Go.Proofs.YtadaeecokkokjaaGreatDoor.Lx
open Go.ChangeShapes Go.WideShapes Go.Deep Go.RowKit Cls Md
set_option maxRecDepth 100000
/-- How many bytes at the beginning are blank. -/
def blankN : List UInt8 → Nat
  | [] => 0
  | [c] => if c = 32 ∨ c = 9 then 1 else 0
  | c :: d :: l => if c = 32 ∨ c = 9 then 1 + blankN (d :: l) else if c = 92 ∧ d = 10 then 2 + blankN l else 0
/-- The frame of Step: the state that came in, the results' blocks. -/
structure SFr (w D : World) : Prop where
  bx : BoxN D w.heap.size [.int .i64 0, .slice none 0 0, .bool false]
  tk : BoxN D (w.heap.size + 1) [.int .i64 0, .int .i64 0, .int .i64 0, .bool false]
  lx : BoxN D (w.heap.size + 2) [.int .i64 0, .slice none 0 0, .bool false]
  be : Below w.heap.size w D
theorem SFr.below {w D D' : World} (h : SFr w D) (hb : Below D.heap.size D D') : SFr w D' := ⟨h.bx.below hb, h.tk.below hb, h.lx.below hb, below_then h.be hb⟩
theorem SFr.new (w : World) (t1 t2 t3 : TypeId) : SFr w (((w.alloc (.cells #[.int .i64 0, .slice none 0 0, .bool false] t1)).alloc (.cells #[.int .i64 0, .int .i64 0, .int .i64 0, .bool false] t2)).alloc (.cells #[.int .i64 0, .slice none 0 0, .bool false] t3)) := by
  have h1 := BoxN.new w [.int .i64 0, .slice none 0 0, .bool false] t1
  have h2 := BoxN.new (w.alloc (.cells #[.int .i64 0, .slice none 0 0, .bool false] t1)) [.int .i64 0, .int .i64 0, .int .i64 0, .bool false] t2
  have h3 := BoxN.new ((w.alloc (.cells #[.int .i64 0, .slice none 0 0, .bool false] t1)).alloc (.cells #[.int .i64 0, .int .i64 0, .int .i64 0, .bool false] t2)) [.int .i64 0, .slice none 0 0, .bool false] t3
  rw [show (w.alloc (.cells #[.int .i64 0, .slice none 0 0, .bool false] t1)).heap.size = w.heap.size + 1 by simp] at h2
  rw [show ((w.alloc (.cells #[.int .i64 0, .slice none 0 0, .bool false] t1)).alloc (.cells #[.int .i64 0, .int .i64 0, .int .i64 0, .bool false] t2)).heap.size = w.heap.size + 2 by simp] at h3
  exact ⟨(h1.below (below_alloc (Below.refl _ _) _)).below (below_alloc (Below.refl _ _) _), h2.below (below_alloc (Below.refl _ _) _), h3, by (repeat (first | exact Below.refl _ _ | assumption | with_reducible refine below_alloc ?_ _ | with_reducible refine below_grow ?_ _ | with_reducible refine below_drewN ?_ _ | with_reducible refine below_drew ?_ | with_reducible refine below_setCell ?_ (by first | (dsimp only; omega) | (simp; done) | (simp; omega)) _))⟩
end Go.Proofs.YtadaeecokkokjaaGreatDoor.Lx
/-
  The walks of layer 9's reference (token), on: a newline, an operator, a word, from a state in which nothing is awaited. Conditions: texts of at most 2^29 bytes.
-/
namespace Go.Proofs.YtadaeecokkokjaaGreatDoor.Lx
open Go.ChangeShapes Go.WideShapes Go.Deep Go.RowKit Cls Md
set_option maxRecDepth 100000
theorem endFrom_ge (x : St) (i : Nat) (l : List UInt8) : i ≤ endFrom x i l ∧ endFrom x i l ≤ i + l.length := by
  induction l generalizing x i with
  | nil => exact ⟨Nat.le_refl _, Nat.le_refl _⟩
  | cons b l ih =>
    unfold endFrom
    split
    · simp
    · have := ih (Md.step x b.toNat i) (i + 1)
      simp
      omega
end Go.Proofs.YtadaeecokkokjaaGreatDoor.Lx
