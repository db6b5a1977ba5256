/-
  The walks of layer 16 (pattern): classes of bytes, sets of bytes. Conditions: none.
-/
import Derived.Test.YteojepadhonbiaaProg
import Derived.Test.YteojepadhonbiaaOwn
import Derived.Test.YteojepadhonbiaaPatPlain2
namespace Go.Proofs.Yteojepadhonbiaa.Pat
open Go.ChangeShapes Go.WideShapes Go.Deep Go.RowKit
set_option maxRecDepth 100000
theorem ret_b {a b : Bool} (h : a = b) : Ending.returned (.bool a) = .returned (.bool b) := by rw [h]
theorem ret_cls {a b c d : Bool} (h : a = b) (k : c = d) : Ending.returned (.tuple #[.bool a, .bool c]) = .returned (.tuple #[.bool b, .bool d]) := by rw [h, k]
theorem btw_mk {b : UInt8} {lo hi : Int} {c d : Bool} (h1 : decide (lo ≤ (b.toNat : Int)) = c) (h2 : decide ((b.toNat : Int) ≤ hi) = d) : btw b lo hi = (c && d) := by unfold btw; rw [h1, h2]
theorem between_any (b : UInt8) (lo hi : Int) (w : World) : Calls Try.prog 147 #[.int .u8 b.toNat, .int .u8 lo, .int .u8 hi] w fun e w' => e = .returned (.bool (btw b lo hi)) ∧ w = w' := by
  by_cases h1 : lo ≤ (b.toNat : Int)
  · by_cases h2 : (b.toNat : Int) ≤ hi
    · rw [btw_mk (yes h1) (yes h2)]
      go_enter Try.func147, Try.ntmps147
      go_wp2
      go_ret
      exact ⟨rfl, rfl⟩
    · have d2 := no h2
      rw [btw_mk (yes h1) d2]
      clear h2
      go_enter Try.func147, Try.ntmps147
      go_wp2
      go_ret
      exact ⟨rfl, rfl⟩
  · have d1 := no h1
    rw [btw_mk d1 rfl]
    clear h1
    go_enter Try.func147, Try.ntmps147
    go_wp2
    go_ret
    exact ⟨rfl, rfl⟩
theorem alnum_any (b : UInt8) (w : World) : Calls Try.prog 148 #[.int .u8 b.toNat] w fun e w' => e = .returned (.bool (alnumB b)) ∧ w = w' := by
  unfold alnumB
  go_enter Try.func148, Try.ntmps148
  go_wp2_with (go_at_call 147; refine (between_any _ _ _ _).mono ?_; rintro e w' ⟨rfl, rfl⟩)
  all_goals
    go_ret
    exact ⟨ret_b (by simp [*]), rfl⟩
theorem in_cls {name : List UInt8} {b : UInt8} {x : Bool} (h : clsOf name b = some x) (h0 : (clsOf name 0).isSome = true) : inCls name b = x ∧ known name = true := ⟨by unfold inCls; rw [h]; rfl, h0⟩
set_option maxHeartbeats 1600000 in
theorem is_any (name : List UInt8) (b : UInt8) (w : World) : Calls Try.prog 145 #[.string (B name), .int .u8 b.toNat] w fun e w' => e = .returned (.tuple #[.bool (inCls name b), .bool (known name)]) ∧ w = w' := by
  go_enter Try.func145, Try.ntmps145
  go_wp2_with (first | (go_at_call 147; refine (between_any _ _ _ _).mono ?_; rintro e w' ⟨rfl, rfl⟩) | (go_at_call 148; refine (alnum_any _ _).mono ?_; rintro e w' ⟨rfl, rfl⟩))
  all_goals
    go_ret2
    refine ⟨ret_cls ?_ ?_, rfl⟩ <;> simp [inCls, known, clsOf, nUpper, nLower, nAlpha, nDigit, nAlnum, nXdigit, nBlank, nSpace, nCntrl, nPrint, nGraph, nPunct, *]
end Go.Proofs.Yteojepadhonbiaa.Pat
