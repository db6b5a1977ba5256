/-
  Whether a text begins with another one: the reference's Begins (layer 19), and strings.HasPrefix in words of lists.
-/
import Derived.Test.YtkllgikmlgponaaProg
import Derived.Test.YtkllgikmlgponaaOwn
import Derived.Lib.Strings
namespace Go.Proofs.Ytkllgikmlgponaa
open Go.ChangeShapes Go.WideShapes Go.Deep Go.RowKit
set_option maxRecDepth 100000
theorem pre_take (s p : List UInt8) (h : p.length ≤ s.length) : Lib.hasPrefix s p = (s.take p.length == p) := by
  unfold Lib.hasPrefix
  rw [Bool.eq_iff_iff, List.isPrefixOf_iff_prefix, beq_iff_eq, List.prefix_iff_eq_take, eq_comm]
theorem begins_any (s p : List UInt8) (w : World) : Calls Try.prog 15 #[.string (B s), .string (B p)] w fun e w' => e = .returned (.bool (Lib.hasPrefix s p)) ∧ w = w' := by
  by_cases h : p.length ≤ s.length
  · have HP := Lib.hid (pre_take s p h)
    have h2 : (p.length : Int) ≤ (s.length : Int) := by omega
    go_enter Try.func15, Try.ntmps15
    go_wp2
    go_ret
    exact ⟨by rw [HP.out]; rfl, rfl⟩
  · have HP : Hid (Lib.hasPrefix s p = false) := by
      show _ = _
      unfold Lib.hasPrefix
      rw [Bool.eq_false_iff]
      intro hp
      exact h ((List.isPrefixOf_iff_prefix.1 hp).length_le)
    have h2 := no h
    clear h
    go_enter Try.func15, Try.ntmps15
    go_wp2
    go_ret
    exact ⟨by rw [HP.out]; rfl, rfl⟩
end Go.Proofs.Ytkllgikmlgponaa
