/-
  The walk of layer 7 (parts): where a part's inside begins and ends. Conditions: places of at most 2^31.
-/
import Derived.Test.YtadlaaddpobhbaaDoorParts3
namespace Go.Proofs.YtadlaaddpobhbaaDoor.Pa
open Go.ChangeShapes Go.WideShapes Go.Deep Go.RowKit Cls Md Mc
set_option linter.unusedSimpArgs false
set_option linter.unusedVariables false
set_option maxRecDepth 100000
def headI (k : Int) : Nat := if k == 1 || k == 7 || k == 8 then 2 else if k == 9 then 3 else 1
def tailI (k : Int) (op : Bool) : Nat := if op then 0 else if k == 9 then 2 else if k == 13 || k == 12 then 0 else 1
theorem ret_2 {a b c d : Int} (h : a = c) (k : b = d) : Ending.returned (.tuple #[.int .i64 a, .int .i64 b]) = .returned (.tuple #[.int .i64 c, .int .i64 d]) := by rw [h, k]
set_option maxHeartbeats 4000000 in
theorem inside_any (k : Int) (fr fin : Nat) (up : Int) (op : Bool) (w : World) (h1 : fr ≤ 2147483648) (h2 : fin ≤ 2147483648) :
    Calls Tryd.prog 93 #[.agg #[.int .i64 k, .int .i64 fr, .int .i64 fin, .int .i64 up, .bool op]] w fun e w' => e = .returned (.tuple #[.int .i64 ((fr + headI k : Nat) : Int), .int .i64 ((max (fin - tailI k op) (fr + headI k) : Nat) : Int)]) ∧ Below w.heap.size w w' := by
  obtain ⟨hd, hhd⟩ : ∃ h, headI k = h := ⟨_, rfl⟩
  obtain ⟨tl, htl⟩ : ∃ h, tailI k op = h := ⟨_, rfl⟩
  rw [hhd, htl]
  have HH := Lib.hid hhd
  have HT := Lib.hid htl
  clear hhd htl
  have u0 : IntKind.i64.wrap ((fin : Int) - 0) = (fin : Int) - 0 := IntWalk.i64_in _ (by omega)
  have u1 : IntKind.i64.wrap ((fin : Int) - 1) = (fin : Int) - 1 := IntWalk.i64_in _ (by omega)
  have u2 : IntKind.i64.wrap ((fin : Int) - 2) = (fin : Int) - 2 := IntWalk.i64_in _ (by omega)
  go_enter Tryd.func93, Tryd.ntmps93
  go_upto_region 15 with (fail)
  all_goals
    have e1 := HH.out
    have e2 := HT.out
    simp [headI, tailI, *] at e1 e2
    subst e1 e2
    (refine wp_region_grow (by kernel_rfl) (by kernel_rfl) ?_; (repeat (go_big_quiet_step (fail))); refine wpQuiet_nil ?_; intro _ hw'; obtain ⟨gq, hw''⟩ := hw'; subst hw'')
    go_wp2
  all_goals
    refine bodyPost_ret (v := .tuple #[.int .i64 _, .int .i64 _]) (by simp [results, Tryd.results93, go_sem]; exact ⟨rfl, rfl⟩) rfl ?_
    exact ⟨ret_2 (by omega) (by simp only [Int.max_def, Nat.max_def]; (repeat' split) <;> first | omega | (simp only [beq_iff_eq] at *; omega)), by (repeat (first | exact Below.refl _ _ | assumption | with_reducible refine below_alloc ?_ _ | with_reducible refine below_grow ?_ _ | with_reducible refine below_drewN ?_ _ | with_reducible refine below_drew ?_ | with_reducible refine below_setCell ?_ (by first | (dsimp only; omega) | (simp; done) | (simp; omega)) _))⟩
end Go.Proofs.YtadlaaddpobhbaaDoor.Pa
