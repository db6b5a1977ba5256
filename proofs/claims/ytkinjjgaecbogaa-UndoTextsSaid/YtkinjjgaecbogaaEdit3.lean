/-
  The walks of layer 1 (edit) and of its reference, on: ref.Diff, ref.Wrong, ref.Do, Make, Move.
-/
import Derived.Test.YtkinjjgaecbogaaEdit2
import Derived.Test.YtkinjjgaecbogaaTail
namespace Go.Proofs.Ytkinjjgaecbogaa
open Go.RowKit
theorem refDo_any (s d i : List UInt8) (n : Nat) (w : World) (hs : s.length ≤ 4611686018427387903) (hi : i.length ≤ 4611686018427387903) (h1 : n + d.length ≤ s.length) :
    Calls Try.prog 48 #[.string (B s), Edit n d i] w fun e w' => e = .returned (.string (B (does s n d i))) ∧ Below w.heap.size w w' := by
  have hn : n ≤ s.length := by omega
  unfold Edit
  go_enter Try.func48, Try.ntmps48
  go_wp2
  go_quiet (fail)
  go_wp2
  go_ret
  exact ⟨rfl, by (repeat (first | exact Below.refl _ _ | assumption | with_reducible refine below_alloc ?_ _ | with_reducible refine below_grow ?_ _ | with_reducible refine below_drewN ?_ _ | with_reducible refine below_drew ?_ | with_reducible refine below_setCell ?_ (by first | (dsimp only; omega) | (simp; done) | (simp; omega)) _))⟩
end Go.Proofs.Ytkinjjgaecbogaa
