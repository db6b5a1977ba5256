/-
  The walks of layer 1 (edit) and of its reference: what each Go function returns, as a plain function of lists of bytes. Conditions: the texts' lengths are at most 2^63 - 1.
-/
import Derived.Test.YtkinjjgaecbogaaProg
import Derived.Test.YtkinjjgaecbogaaBase
import Derived.Test.YtkinjjgaecbogaaEditPlain
namespace Go.Proofs.Ytkinjjgaecbogaa
open Go.RowKit
def DiffPost (a b : List UInt8) (w : World) (e : Ending) (w' : World) : Prop :=
   e = .returned (.agg #[.int .i64 (cp a b), .string (B ((a.drop (cp a b)).take (a.length - cp a b - cs (a.drop (cp a b)) (b.drop (cp a b))))), .string (B ((b.drop (cp a b)).take (b.length - cp a b - cs (a.drop (cp a b)) (b.drop (cp a b)))))]) ∧ Below w.heap.size w w'
def pre (t s : List UInt8) : Bool := s.take t.length == t
theorem pre_any (s t : List UInt8) (w : World) (_hs : s.length ≤ 9223372036854775807) (_ht : t.length ≤ 9223372036854775807) :
    Calls Try.prog 103 #[.string (B s), .string (B t)] w fun e w' => e = .returned (.bool (pre t s)) ∧ w = w' := by
  by_cases h : t.length ≤ s.length
  · go_enter Try.func103, Try.ntmps103
    go_wp2
    go_ret
    simp [pre]
  · have h' : pre t s = false := by
      simp only [pre, beq_eq_false_iff_ne]; intro e; have := congrArg List.length e; simp at this; omega
    go_enter Try.func103, Try.ntmps103
    go_wp2
    go_ret
    simp [h']
/-- What is wrong with an edit of a text, by its number. -/
def wrong (s : List UInt8) (at_ : Int) (d i : List UInt8) : Int :=
  if at_ < 0 ∨ (s.length : Int) < at_ ∨ pre d (s.drop at_.toNat) = false then 1 else if (1048576 : Int) - i.length < (s.length : Int) - d.length then 2 else 0
def Edit (at_ : Int) (d i : List UInt8) : Value := .agg #[.int .i64 at_, .string (B d), .string (B i)]
@[go_sem] theorem Edit_eq (n : Int) (d i : List UInt8) : Edit n d i = .agg #[.int .i64 n, .string (B d), .string (B i)] := rfl
def CheckPost (s : List UInt8) (at_ : Int) (d i : List UInt8) (w : World) (e : Ending) (w' : World) : Prop := e = .returned (.int .i64 (wrong s at_ d i)) ∧ Below w.heap.size w w'
theorem check_any (s d i : List UInt8) (at_ : Int) (w : World) (hs : s.length ≤ 9223372036854775807) (hd : d.length ≤ 9223372036854775807) (hi : i.length ≤ 9223372036854775807)  :
    Calls Try.prog 88 #[.string (B s), Edit at_ d i] w (CheckPost s at_ d i w) := by
  unfold Edit
  have hW : Below w.heap.size w w := Below.refl _ _
  by_cases h1 : at_ < 0
  · have hwr : wrong s at_ d i = 1 := by simp [wrong, h1]
    rw [show CheckPost s at_ d i w = fun e w' => e = .returned (.int .i64 1) ∧ Below w.heap.size w w' by funext e w'; simp [CheckPost, hwr]]
    clear hwr
    go_enter Try.func88, Try.ntmps88
    go_wp2
    go_quiet (fail)
    go_wp2
    go_ret
    exact ⟨rfl, Drew.below (hW.alloc (Nat.le_refl _) _) ⟨_, rfl⟩⟩
  · have h1' := no h1
    by_cases h2 : (s.length : Int) < at_
    · have hwr : wrong s at_ d i = 1 := by simp [wrong, h2]
      rw [show CheckPost s at_ d i w = fun e w' => e = .returned (.int .i64 1) ∧ Below w.heap.size w w' by funext e w'; simp [CheckPost, hwr]]
      clear hwr
      go_enter Try.func88, Try.ntmps88
      go_wp2
      go_quiet (fail)
      go_wp2
      go_ret
      exact ⟨rfl, Drew.below (hW.alloc (Nat.le_refl _) _) ⟨_, rfl⟩⟩
    · obtain ⟨at_, rfl⟩ := Int.eq_ofNat_of_zero_le (by omega : 0 ≤ at_)
      have h3 : at_ ≤ s.length := by omega
      have h2' : decide (s.length < at_) = false := no (by omega)
      rw [show CheckPost s at_ d i w = fun e w' => e = .returned (.int .i64 (wrong s at_ d i)) ∧ Below w.heap.size w w' from rfl]
      unfold wrong
      simp only [h1, h2, Int.toNat_natCast, false_or]
      by_cases h4 : pre d (s.drop at_) = true
      · by_cases h5 : (1048576 : Int) - i.length < (s.length : Int) - d.length
        · simp only [h4, h5, if_true, if_false, Bool.true_eq_false]
          go_enter Try.func88, Try.ntmps88
          go_wp2
          go_quiet ((go_at_call 103; exact quiet_same (pre_any _ _ _ (by simp; omega) hd)))
          go_wp2
          go_ret
          exact ⟨rfl, Drew.below (hW.alloc (Nat.le_refl _) _) ⟨_, rfl⟩⟩
        · simp only [h4, h5, if_false, Bool.true_eq_false]
          go_enter Try.func88, Try.ntmps88
          go_wp2
          go_quiet ((go_at_call 103; exact quiet_same (pre_any _ _ _ (by simp; omega) hd)))
          go_wp2
          go_ret
          exact ⟨rfl, Drew.below (hW.alloc (Nat.le_refl _) _) ⟨_, rfl⟩⟩
      · have h4' := Bool.eq_false_iff.2 h4
        simp only [h4', if_true]
        go_enter Try.func88, Try.ntmps88
        go_wp2
        go_quiet ((go_at_call 103; exact quiet_same (pre_any _ _ _ (by simp; omega) hd)))
        go_wp2
        go_ret
        exact ⟨rfl, Drew.below (hW.alloc (Nat.le_refl _) _) ⟨_, rfl⟩⟩
end Go.Proofs.Ytkinjjgaecbogaa
