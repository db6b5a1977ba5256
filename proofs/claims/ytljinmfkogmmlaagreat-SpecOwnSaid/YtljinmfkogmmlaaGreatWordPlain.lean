/-
  Closed forms are words (layer 17), plainly. No program in sight.
-/
import Derived.Test.YtljinmfkogmmlaaGreatLexA
import Derived.Test.YtljinmfkogmmlaaGreatQuoA
namespace Go.Proofs.YtljinmfkogmmlaaGreat.Lx
open Cls Md Quo
/-- The stack has just these letters. -/
def Is (x : St) (l : List UInt8) : Prop := x.l.map (·.1) = l
/-- Bytes that Top takes as they are. -/
def topB (n : Int) : Bool := !(n == 92 || n == 39 || n == 34 || n == 96 || n == 36 || n == 35 || n == 40 || n == 41) && !(cls n == 1 || cls n == 2 || cls n == 3)
end Go.Proofs.YtljinmfkogmmlaaGreat.Lx
