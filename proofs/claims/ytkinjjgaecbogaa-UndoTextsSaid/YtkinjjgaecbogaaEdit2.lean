/-
  The walks of layer 1 (edit) and of its reference, on: Do, Goes, Inverse, Make, Move.
-/
import Derived.Test.YtkinjjgaecbogaaEdit
import Derived.StillTailTactics
namespace Go.Proofs.Ytkinjjgaecbogaa
open Go.RowKit
theorem pre_len {d s : List UInt8} (h : pre d s = true) : d.length ≤ s.length := by
  have := congrArg List.length (beq_iff_eq.1 h)
  simp at this; omega
theorem wrong_zero {s d i : List UInt8} {at_ : Int} (h : wrong s at_ d i = 0) : ∃ n : Nat, at_ = n ∧ n + d.length ≤ s.length ∧ pre d (s.drop n) = true ∧ s.length + i.length ≤ 1048576 + d.length := by
  unfold wrong at h
  split at h
  · cases h
  · rename_i h1
    split at h
    · cases h
    · rename_i h2
      simp only [not_or, Bool.not_eq_false] at h1
      obtain ⟨n, rfl⟩ := Int.eq_ofNat_of_zero_le (by omega : 0 ≤ at_)
      have := pre_len h1.2.2
      simp at this
      exact ⟨n, rfl, by omega, by simpa using h1.2.2, by omega⟩
/-- The text behind an edit that goes. -/
def does (s : List UInt8) (at_ : Int) (d i : List UInt8) : List UInt8 := s.take at_.toNat ++ (i ++ s.drop (at_.toNat + d.length))
def DoPost (s : List UInt8) (at_ : Int) (d i : List UInt8) (w : World) (e : Ending) (w' : World) : Prop :=
  e = .returned (.tuple #[.string (B (if wrong s at_ d i = 0 then does s at_ d i else [])), .int .i64 (wrong s at_ d i)]) ∧ Below w.heap.size w w'
theorem do_any (s d i : List UInt8) (at_ : Int) (w : World) (hs : s.length ≤ 4611686018427387903) (hd : d.length ≤ 9223372036854775807) (hi : i.length ≤ 9223372036854775807) :
    Calls Try.prog 59 #[.string (B s), Edit at_ d i] w (DoPost s at_ d i w) := by
  by_cases h : wrong s at_ d i = 0
  · obtain ⟨n, rfl, h1, h2, h3⟩ := wrong_zero h
    have hn : n ≤ s.length := by omega
    have hP : DoPost s n d i w = fun e w' => e = .returned (.tuple #[.string (B (does s n d i)), .int .i64 0]) ∧ Below w.heap.size w w' := by
      funext e w'; simp [DoPost, h]
    rw [hP]
    have H := Lib.hid h
    clear h h2 hP
    unfold Edit
    go_enter Try.func59, Try.ntmps59
    go_wp2_with (go_at_call 88; refine (check_any _ _ _ _ _ (by omega) hd (by omega)).mono ?_; rintro e w' ⟨he, hb⟩; rw [H.out] at he; subst he; obtain ⟨g, rfl⟩ := to_grow hb; clear hb)
    go_quiet (fail)
    go_wp2
    go_ret2
    exact ⟨rfl, by (repeat (first | exact Below.refl _ _ | assumption | with_reducible refine below_alloc ?_ _ | with_reducible refine below_grow ?_ _ | with_reducible refine below_drewN ?_ _ | with_reducible refine below_drew ?_ | with_reducible refine below_setCell ?_ (by first | (dsimp only; omega) | (simp; done) | (simp; omega)) _))⟩
  · have h' : (wrong s at_ d i != 0) = true := by simpa using h
    have hP : DoPost s at_ d i w = fun e w' => e = .returned (.tuple #[.string (B []), .int .i64 (wrong s at_ d i)]) ∧ Below w.heap.size w w' := by
      funext e w'; simp [DoPost, h]
    rw [hP]
    generalize hx : wrong s at_ d i = x at *
    have Hx := Lib.hid hx
    clear hx hP
    unfold Edit
    go_enter Try.func59, Try.ntmps59
    go_wp2_with (go_at_call 88; refine (check_any _ _ _ _ _ (by omega) hd (by omega)).mono ?_; rintro e w' ⟨he, hb⟩; rw [Hx.out] at he; subst he; obtain ⟨g, rfl⟩ := to_grow hb; clear hb)
    go_ret2
    exact ⟨rfl, by (repeat (first | exact Below.refl _ _ | assumption | with_reducible refine below_alloc ?_ _ | with_reducible refine below_grow ?_ _ | with_reducible refine below_drewN ?_ _ | with_reducible refine below_drew ?_ | with_reducible refine below_setCell ?_ (by first | (dsimp only; omega) | (simp; done) | (simp; omega)) _))⟩
theorem inverse_any (d i : List UInt8) (at_ : Int) (w : World) :
    Calls Try.prog 60 #[Edit at_ d i] w fun e w' => e = .returned (Edit at_ i d) ∧ Below w.heap.size w w' := by
  unfold Edit
  go_enter Try.func60, Try.ntmps60
  go_wp2
  exact bodyPost_ret (v := .agg #[.int .i64 at_, .string (B i), .string (B d)]) (by simp [results, Try.results60, go_sem]) rfl ⟨rfl, by (repeat (first | exact Below.refl _ _ | assumption | with_reducible refine below_alloc ?_ _ | with_reducible refine below_grow ?_ _ | with_reducible refine below_drewN ?_ _ | with_reducible refine below_drew ?_ | with_reducible refine below_setCell ?_ (by first | (dsimp only; omega) | (simp; done) | (simp; omega)) _))⟩
end Go.Proofs.Ytkinjjgaecbogaa
