/-
  Closed forms are words (layer 17), plainly. No program in sight.
-/
import Derived.Test.YtadaeecokkokjaaGreatModA
import Derived.Test.YtadaeecokkokjaaGreatIter
import Derived.Lib.Replace
import Derived.Lib.IndexBytes
import Derived.Lib.IndexLaws
import Derived.Test.YtadaeecokkokjaaGreatNums
import Derived.Test.YtadaeecokkokjaaGreatBld
import Derived.Lib.SplitLaws
set_option linter.unusedSimpArgs false
set_option linter.unusedVariables false
namespace Go.Proofs.YtadaeecokkokjaaGreat.Lx
open Go.ChangeShapes Go.WideShapes Go.Deep Go.RowKit Cls
set_option maxRecDepth 100000
end Go.Proofs.YtadaeecokkokjaaGreat.Lx
namespace Go.Proofs.YtadaeecokkokjaaGreat.Lx
open Go.ChangeShapes Go.WideShapes Go.Deep Go.RowKit Cls Md
set_option maxRecDepth 100000
/-- The frame of Step: the state that came in, the results' blocks. -/
structure SFr (w D : World) : Prop where
  bx : BoxN D w.heap.size [.int .i64 0, .slice none 0 0, .bool false]
  tk : BoxN D (w.heap.size + 1) [.int .i64 0, .int .i64 0, .int .i64 0, .bool false]
  lx : BoxN D (w.heap.size + 2) [.int .i64 0, .slice none 0 0, .bool false]
  be : Below w.heap.size w D
theorem SFr.below {w D D' : World} (h : SFr w D) (hb : Below D.heap.size D D') : SFr w D' := ⟨h.bx.below hb, h.tk.below hb, h.lx.below hb, below_then h.be hb⟩
theorem SFr.new (w : World) (t1 t2 t3 : TypeId) : SFr w (((w.alloc (.cells #[.int .i64 0, .slice none 0 0, .bool false] t1)).alloc (.cells #[.int .i64 0, .int .i64 0, .int .i64 0, .bool false] t2)).alloc (.cells #[.int .i64 0, .slice none 0 0, .bool false] t3)) := by
  have h1 := BoxN.new w [.int .i64 0, .slice none 0 0, .bool false] t1
  have h2 := BoxN.new (w.alloc (.cells #[.int .i64 0, .slice none 0 0, .bool false] t1)) [.int .i64 0, .int .i64 0, .int .i64 0, .bool false] t2
  have h3 := BoxN.new ((w.alloc (.cells #[.int .i64 0, .slice none 0 0, .bool false] t1)).alloc (.cells #[.int .i64 0, .int .i64 0, .int .i64 0, .bool false] t2)) [.int .i64 0, .slice none 0 0, .bool false] t3
  rw [show (w.alloc (.cells #[.int .i64 0, .slice none 0 0, .bool false] t1)).heap.size = w.heap.size + 1 by simp] at h2
  rw [show ((w.alloc (.cells #[.int .i64 0, .slice none 0 0, .bool false] t1)).alloc (.cells #[.int .i64 0, .int .i64 0, .int .i64 0, .bool false] t2)).heap.size = w.heap.size + 2 by simp] at h3
  exact ⟨(h1.below (below_alloc (Below.refl _ _) _)).below (below_alloc (Below.refl _ _) _), h2.below (below_alloc (Below.refl _ _) _), h3, by (repeat (first | exact Below.refl _ _ | assumption | with_reducible refine below_alloc ?_ _ | with_reducible refine below_grow ?_ _ | with_reducible refine below_drewN ?_ _ | with_reducible refine below_drew ?_ | with_reducible refine below_setCell ?_ (by first | (dsimp only; omega) | (simp; done) | (simp; omega)) _))⟩
end Go.Proofs.YtadaeecokkokjaaGreat.Lx
namespace Go.Proofs.YtadaeecokkokjaaGreat.Lx
open Go.ChangeShapes Go.WideShapes Go.Deep Go.RowKit Cls Md
set_option maxRecDepth 100000
theorem endFrom_ge (x : St) (i : Nat) (l : List UInt8) : i ≤ endFrom x i l ∧ endFrom x i l ≤ i + l.length := by
  induction l generalizing x i with
  | nil => exact ⟨Nat.le_refl _, Nat.le_refl _⟩
  | cons b l ih =>
    unfold endFrom
    split
    · simp
    · have := ih (Md.step x b.toNat i) (i + 1)
      simp
      omega
end Go.Proofs.YtadaeecokkokjaaGreat.Lx
namespace Go.Proofs.YtadaeecokkokjaaGreat.Pat
open Go.ChangeShapes Go.WideShapes Go.Deep Go.RowKit
/-- The library's variable MaxLen holds some number. -/
def MaxL (w : World) : Prop := ∃ m, w.cell? ⟨0, 0, none⟩ = some (.int .i64 m)
theorem MaxL.lt {w : World} (h : MaxL w) : 0 < w.heap.size := by obtain ⟨m, hm⟩ := h; exact World.block_lt_of_cell? w _ hm
theorem MaxL.below {w W : World} (h : MaxL w) (hb : Below w.heap.size w W) : MaxL W := by
  have := h.lt
  obtain ⟨m, hm⟩ := h
  exact ⟨m, (hb.cell (p := ⟨0, 0, none⟩) this).trans hm⟩
theorem MaxL.keeps {F : Nat → Prop} {w W : World} (h : MaxL w) (hk : Keeps F w W) (hF : ¬ F 0) : MaxL W := by
  have := h.lt
  obtain ⟨m, hm⟩ := h
  exact ⟨m, (World.cell?_of_block (w := w) (hk.block 0 this hF)).trans hm⟩
theorem MaxL.keepG {G : Nat → Prop} {w W : World} (h : MaxL w) (hk : KeepG G w W) (h0 : G 0) : MaxL W := by
  obtain ⟨m, hm⟩ := h
  exact ⟨m, (hk.cell h0).trans hm⟩
end Go.Proofs.YtadaeecokkokjaaGreat.Pat
namespace Go.Proofs.YtadaeecokkokjaaGreat.Quo
open Go.Lib
def dblB (b : UInt8) : Bool := b == 36 || b == 96 || b == 34 || b == 92
end Go.Proofs.YtadaeecokkokjaaGreat.Quo
namespace Go.Proofs.YtadaeecokkokjaaGreat.Quo
open Cls
/-- A byte's form where nothing is quoted. -/
def escB (b : UInt8) : List UInt8 := if b = 10 then [39, 10, 39] else if safeB b = true then [b] else [92, b]
/-- A text of safe bytes that could be taken for something else. -/
def riskB (s : List UInt8) : Bool := resB s || (s != [] && s.all digitB)
def headL (s : List UInt8) : List UInt8 := if (riskB s && safeB (s.getD 0 0)) = true then [92] else []
/-- The first k bytes' form. -/
def plnK (s : List UInt8) (k : Nat) : List UInt8 := if k = 0 then [] else headL s ++ (s.take k).flatMap escB
def dblE (b : UInt8) : List UInt8 := if dblB b = true then [92, b] else [b]
end Go.Proofs.YtadaeecokkokjaaGreat.Quo
namespace Go.Proofs.YtadaeecokkokjaaGreat.Quo
open Go.ChangeShapes Go.WideShapes Go.Deep Go.RowKit Cls Bd Pat
set_option maxRecDepth 100000
end Go.Proofs.YtadaeecokkokjaaGreat.Quo
namespace Go.Proofs.YtadaeecokkokjaaGreat.Quo
open Go.ChangeShapes Go.WideShapes Go.Deep Go.RowKit Cls Bd Pat
set_option maxRecDepth 100000
/-- What holds at each round of plain's loop. -/
def PlnI (s : List UInt8) (w : World) (i : Value) (wr : World) : Prop := ∃ (k : Nat) (v : Value), k ≤ s.length ∧ i = .int .i64 k ∧ Hid (Bld wr w.heap.size w.heap.size v (plnK s k)) ∧ Hid (Below w.heap.size w wr)
theorem PlnI.mk {s : List UInt8} {w wr : World} {i : Value} {v : Value} {l : List UInt8} (k : Nat) (h1 : k ≤ s.length) (h2 : i = .int .i64 k) (he : plnK s k = l) (h3 : Bld wr w.heap.size w.heap.size v l) (h4 : Below w.heap.size w wr) : PlnI s w i wr := ⟨k, v, h1, h2, by rw [he]; exact h3, h4⟩
end Go.Proofs.YtadaeecokkokjaaGreat.Quo
namespace Go.Proofs.YtadaeecokkokjaaGreat.Quo
open Go.ChangeShapes Go.WideShapes Go.Deep Go.RowKit Cls Bd Pat
set_option maxRecDepth 100000
end Go.Proofs.YtadaeecokkokjaaGreat.Quo
namespace Go.Proofs.YtadaeecokkokjaaGreat.Quo
open Go.ChangeShapes Go.WideShapes Go.Deep Go.RowKit Cls Bd Pat
set_option maxRecDepth 100000
end Go.Proofs.YtadaeecokkokjaaGreat.Quo
namespace Go.Proofs.YtadaeecokkokjaaGreat.Quo
open Go.ChangeShapes Go.WideShapes Go.Deep Go.RowKit Cls Bd Pat
set_option maxRecDepth 100000
end Go.Proofs.YtadaeecokkokjaaGreat.Quo
namespace Go.Proofs.YtadaeecokkokjaaGreat.Lx
open Cls Md Quo
/-- The stack has just these letters. -/
def Is (x : St) (l : List UInt8) : Prop := x.l.map (·.1) = l
/-- Bytes that Top takes as they are. -/
def topB (n : Int) : Bool := !(n == 92 || n == 39 || n == 34 || n == 96 || n == 36 || n == 35 || n == 40 || n == 41) && !(cls n == 1 || cls n == 2 || cls n == 3)
end Go.Proofs.YtadaeecokkokjaaGreat.Lx
