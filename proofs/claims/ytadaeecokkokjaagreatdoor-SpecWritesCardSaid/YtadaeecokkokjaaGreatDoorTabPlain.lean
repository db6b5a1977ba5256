/-
  Names in order (layer 19): the order of texts, rows of entries that rise, where a name stands. No program in sight.
-/
import Derived.Lib.Bytealg
set_option linter.unusedSimpArgs false
set_option linter.unusedVariables false
namespace Go.Proofs.YtadaeecokkokjaaGreatDoor.Tab
open Go.Lib
/-- An entry of a table. -/
structure Ent where
  name : List UInt8
  val : List UInt8
/-- Entries that rise. -/
def Rises (xs : List Ent) : Prop := xs.Pairwise fun a b => compareBytes a.name b.name < 0
/-- Where a name stands, or would. -/
def place (xs : List Ent) (s : List UInt8) : Nat := (xs.takeWhile fun e => compareBytes e.name s < 0).length
end Go.Proofs.YtadaeecokkokjaaGreatDoor.Tab
