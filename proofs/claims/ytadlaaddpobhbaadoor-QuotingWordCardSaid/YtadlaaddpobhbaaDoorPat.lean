/-
  The walks of layer 16 (pattern): classes of bytes, sets of bytes. Conditions: none.
-/
import Derived.Test.YtadlaaddpobhbaaDoorProg
import Derived.Test.YtadlaaddpobhbaaDoorOwn
import Derived.Test.YtadlaaddpobhbaaDoorPatPlain2
namespace Go.Proofs.YtadlaaddpobhbaaDoor.Pat
open Go.ChangeShapes Go.WideShapes Go.Deep Go.RowKit
set_option maxRecDepth 100000
theorem ret_b {a b : Bool} (h : a = b) : Ending.returned (.bool a) = .returned (.bool b) := by rw [h]
theorem ret_cls {a b c d : Bool} (h : a = b) (k : c = d) : Ending.returned (.tuple #[.bool a, .bool c]) = .returned (.tuple #[.bool b, .bool d]) := by rw [h, k]
theorem btw_mk {b : UInt8} {lo hi : Int} {c d : Bool} (h1 : decide (lo ≤ (b.toNat : Int)) = c) (h2 : decide ((b.toNat : Int) ≤ hi) = d) : btw b lo hi = (c && d) := by unfold btw; rw [h1, h2]
theorem in_cls {name : List UInt8} {b : UInt8} {x : Bool} (h : clsOf name b = some x) (h0 : (clsOf name 0).isSome = true) : inCls name b = x ∧ known name = true := ⟨by unfold inCls; rw [h]; rfl, h0⟩
end Go.Proofs.YtadlaaddpobhbaaDoor.Pat
