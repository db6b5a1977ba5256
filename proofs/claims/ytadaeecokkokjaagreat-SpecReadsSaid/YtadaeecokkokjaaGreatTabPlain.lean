/-
  Names in order (layer 19): the order of texts, rows of entries that rise, where a name stands. No program in sight.
-/
import Derived.Test.YtadaeecokkokjaaGreatSl
import Derived.Lib.Bytealg
set_option linter.unusedSimpArgs false
set_option linter.unusedVariables false
namespace Go.Proofs.YtadaeecokkokjaaGreat
open Go.ChangeShapes Go.WideShapes Go.ChangeAt Go.RowKit
open Go.ChangeMaps (open_string shut_string)
set_option maxRecDepth 100000
section
variable {H : Type} {enc : TypeId × Value → H} {w : World} {base : Nat} {d : DataW H} {p : List MemPlace} {v : Value}
theorem open_text (h : DataW.Trod enc Tryz.prog w 0 (fun _ => true) true 9 v d p) (k : Value.okWide Tryz.prog w .any base 9 v) : ∃ s, v = .string (B s) ∧ s.length ≤ 9223372036854775807 := by
  obtain ⟨a, rfl, rfl, rfl, ha⟩ := open_string Tryz.underlying9 k h
  obtain ⟨s, rfl⟩ := B_all a
  exact ⟨s, rfl, by rw [B_size] at ha; exact ha⟩
end
end Go.Proofs.YtadaeecokkokjaaGreat
namespace Go.Proofs.YtadaeecokkokjaaGreat.Tab
open Go.Lib
/-- An entry of a table. -/
structure Ent where
  name : List UInt8
  val : List UInt8
/-- Entries that rise. -/
def Rises (xs : List Ent) : Prop := xs.Pairwise fun a b => compareBytes a.name b.name < 0
/-- Where a name stands, or would. -/
def place (xs : List Ent) (s : List UInt8) : Nat := (xs.takeWhile fun e => compareBytes e.name s < 0).length
end Go.Proofs.YtadaeecokkokjaaGreat.Tab
