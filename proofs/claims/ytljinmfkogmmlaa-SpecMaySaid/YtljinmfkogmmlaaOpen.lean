/-
  Arguments opened: texts, numbers, bools, slices of texts.
-/
import Derived.Test.YtljinmfkogmmlaaLawKit
import Derived.Test.YtljinmfkogmmlaaSl
namespace Go.Proofs.Ytljinmfkogmmlaa
open Go.ChangeShapes Go.WideShapes Go.ChangeAt Go.RowKit
open Go.ChangeMaps (open_string shut_string)
set_option maxRecDepth 100000
section
variable {H : Type} {enc : TypeId × Value → H} {w : World} {base : Nat} {d : DataW H} {p : List MemPlace} {v : Value}
theorem open_text (h : DataW.Trod enc Try.prog w 0 (fun _ => true) true 9 v d p) (k : Value.okWide Try.prog w .any base 9 v) : ∃ s, v = .string (B s) ∧ s.length ≤ 9223372036854775807 := by
  obtain ⟨a, rfl, rfl, rfl, ha⟩ := open_string Try.underlying9 k h
  obtain ⟨s, rfl⟩ := B_all a
  exact ⟨s, rfl, by rw [B_size] at ha; exact ha⟩
theorem open_num (h : DataW.Trod enc Try.prog w 0 (fun _ => true) true 3 v d p) (k : Value.okWide Try.prog w .any base 3 v) : ∃ n : Int, v = .int .i64 n ∧ -9223372036854775808 ≤ n ∧ n ≤ 9223372036854775807 := by
  obtain ⟨x, rfl, rfl, rfl, wx⟩ := open_int Try.underlying3 k h
  exact ⟨x, rfl, bounds_i64 wx⟩
theorem open_yes (h : DataW.Trod enc Try.prog w 0 (fun _ => true) true 4 v d p) (k : Value.okWide Try.prog w .any base 4 v) : ∃ b : Bool, v = .bool b := by
  obtain ⟨x, rfl, rfl, rfl⟩ := open_bool Try.underlying4 k h
  exact ⟨x, rfl⟩
end
end Go.Proofs.Ytljinmfkogmmlaa
