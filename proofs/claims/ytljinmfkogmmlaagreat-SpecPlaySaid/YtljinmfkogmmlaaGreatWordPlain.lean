/-
  Closed forms are words (layer 17), plainly. No program in sight.
-/
import Derived.Lib.Replace
import Derived.Lib.IndexBytes
import Derived.Lib.IndexLaws
import Derived.Test.YtljinmfkogmmlaaGreatQuo1
import Derived.Test.YtljinmfkogmmlaaGreatBld
import Derived.Test.YtljinmfkogmmlaaGreatMaxL
import Derived.Lib.SplitLaws
import Derived.Test.YtljinmfkogmmlaaGreatLexA
/-
  The walks of layer 17 (quoting): forms. Conditions: texts of at most 2^30 bytes.
-/
/-
  Forms of texts (layer 17), plainly. No program in sight.
-/
namespace Go.Proofs.YtljinmfkogmmlaaGreat.Quo
open Go.Lib
def dblB (b : UInt8) : Bool := b == 36 || b == 96 || b == 34 || b == 92
end Go.Proofs.YtljinmfkogmmlaaGreat.Quo
/-
  Forms of texts (layer 17), plainly, on: without quotes, in any state, the shortest. No program in sight.
-/
namespace Go.Proofs.YtljinmfkogmmlaaGreat.Quo
open Cls
/-- A byte's form where nothing is quoted. -/
def escB (b : UInt8) : List UInt8 := if b = 10 then [39, 10, 39] else if safeB b = true then [b] else [92, b]
/-- A text of safe bytes that could be taken for something else. -/
def riskB (s : List UInt8) : Bool := resB s || (s != [] && s.all digitB)
def headL (s : List UInt8) : List UInt8 := if (riskB s && safeB (s.getD 0 0)) = true then [92] else []
/-- The first k bytes' form. -/
def plnK (s : List UInt8) (k : Nat) : List UInt8 := if k = 0 then [] else headL s ++ (s.take k).flatMap escB
def dblE (b : UInt8) : List UInt8 := if dblB b = true then [92, b] else [b]
end Go.Proofs.YtljinmfkogmmlaaGreat.Quo
/-
  The walks of layer 17 (quoting), in part: what is risky, texts between double quotes. Conditions: texts of at most 2^30 bytes.
-/
namespace Go.Proofs.YtljinmfkogmmlaaGreat.Quo
open Go.ChangeShapes Go.WideShapes Go.Deep Go.RowKit Cls Bd Pat
set_option maxRecDepth 100000
end Go.Proofs.YtljinmfkogmmlaaGreat.Quo
/-
  The walks of layer 17 (quoting): the forms of a text, the shortest one. Conditions: texts of at most 2^30 bytes; the library's variable MaxLen holds some number.
-/
namespace Go.Proofs.YtljinmfkogmmlaaGreat.Quo
open Go.ChangeShapes Go.WideShapes Go.Deep Go.RowKit Cls Bd Pat
set_option maxRecDepth 100000
/-- What holds at each round of plain's loop. -/
def PlnI (s : List UInt8) (w : World) (i : Value) (wr : World) : Prop := ∃ (k : Nat) (v : Value), k ≤ s.length ∧ i = .int .i64 k ∧ Hid (Bld wr w.heap.size w.heap.size v (plnK s k)) ∧ Hid (Below w.heap.size w wr)
theorem PlnI.mk {s : List UInt8} {w wr : World} {i : Value} {v : Value} {l : List UInt8} (k : Nat) (h1 : k ≤ s.length) (h2 : i = .int .i64 k) (he : plnK s k = l) (h3 : Bld wr w.heap.size w.heap.size v l) (h4 : Below w.heap.size w wr) : PlnI s w i wr := ⟨k, v, h1, h2, by rw [he]; exact h3, h4⟩
end Go.Proofs.YtljinmfkogmmlaaGreat.Quo
/-
  The walks of layer 17's reference: the forms of a text, the shortest one; and of its law's opening. Conditions: texts of at most 2^30 bytes.
-/
namespace Go.Proofs.YtljinmfkogmmlaaGreat.Quo
open Go.ChangeShapes Go.WideShapes Go.Deep Go.RowKit Cls Bd Pat
set_option maxRecDepth 100000
end Go.Proofs.YtljinmfkogmmlaaGreat.Quo
/-
  The walks of layer 17's reference, on: the forms of a text, the shortest one; its law's opening. Conditions: texts of at most 2^30 bytes.
-/
namespace Go.Proofs.YtljinmfkogmmlaaGreat.Quo
open Go.ChangeShapes Go.WideShapes Go.Deep Go.RowKit Cls Bd Pat
set_option maxRecDepth 100000
end Go.Proofs.YtljinmfkogmmlaaGreat.Quo
/-
  The walks of layer 17's reference, on: the shortest form; its law's opening. Conditions: texts of at most 2^30 bytes; the library's variable MaxLen holds some number.
-/
namespace Go.Proofs.YtljinmfkogmmlaaGreat.Quo
open Go.ChangeShapes Go.WideShapes Go.Deep Go.RowKit Cls Bd Pat
set_option maxRecDepth 100000
end Go.Proofs.YtljinmfkogmmlaaGreat.Quo
namespace Go.Proofs.YtljinmfkogmmlaaGreat.Lx
open Cls Md Quo
/-- The stack has just these letters. -/
def Is (x : St) (l : List UInt8) : Prop := x.l.map (·.1) = l
/-- Bytes that Top takes as they are. -/
def topB (n : Int) : Bool := !(n == 92 || n == 39 || n == 34 || n == 96 || n == 36 || n == 35 || n == 40 || n == 41) && !(cls n == 1 || cls n == 2 || cls n == 3)
end Go.Proofs.YtljinmfkogmmlaaGreat.Lx
