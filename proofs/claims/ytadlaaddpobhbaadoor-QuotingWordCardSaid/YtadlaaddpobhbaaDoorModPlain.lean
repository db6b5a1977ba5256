/-
  Stacks of modes (layer 6), plainly: a stack is a row of letters with places, the last frame first. No program in sight.
-/
import Derived.Test.YtadlaaddpobhbaaDoorQuo1
namespace Go.Proofs.YtadlaaddpobhbaaDoor.Md
set_option linter.unusedSimpArgs false
set_option linter.unusedVariables false
open Cls
/-- A stack, the last frame first; whether a comment may begin. -/
structure St where
  l : List (UInt8 × Nat)
  f : Bool
def St.push (x : St) (c : UInt8) (p : Nat) : St := ⟨(c, p) :: x.l, x.f⟩
def St.pop (x : St) : St := ⟨x.l.tail, x.f⟩
def turnL (c : UInt8) : List (UInt8 × Nat) → List (UInt8 × Nat)
  | [] => []
  | (_, p) :: r => (c, p) :: r
def St.turn (x : St) (c : UInt8) : St := ⟨turnL c x.l, x.f⟩
def St.mark (x : St) (f : Bool) : St := ⟨x.l, f⟩
def topL : List (UInt8 × Nat) → UInt8
  | (c, _) :: _ => c
  | [] => 84
def St.top (x : St) : UInt8 := topL x.l
def St.under (x : St) : UInt8 := topL x.l.tail
def endsI (b : Int) : Bool := cls b == 1 || cls b == 2 || cls b == 3
theorem endsI_eq (c : UInt8) : endsI c.toNat = endsB c := rfl
def program (x : St) (c b : Int) (p : Nat) : St :=
  if b == 92 then x.push 88 p
  else if b == 39 then (x.push 83 p).mark false
  else if b == 34 then (x.push 68 p).mark false
  else if b == 96 then (x.push 66 p).mark false
  else if b == 36 then (x.push 76 p).mark false
  else if b == 35 && x.f then x.push 35 p
  else if b == 40 then if c == 84 then x.mark true else (x.push 80 p).mark true
  else if b == 41 then if c == 84 then x.mark true else x.pop.mark (c == 80)
  else x.mark (endsI b)
def plain (x : St) (c b : Int) (p : Nat) : St :=
  if c == 84 || c == 67 || c == 80 then program x c b p
  else if c == 88 then if b == 10 then x.pop else x.pop.mark false
  else if c == 83 then if b == 39 then x.pop else x
  else if c == 35 then if b == 10 then x.pop.mark true else x
  else if c == 66 then if b == 96 then x.pop else if b == 92 then x.push 88 p else x
  else if b == 92 then x.push 88 p
  else if b == 36 then x.push 76 p
  else if b == 96 then x.push 66 p
  else if c == 65 || c == 82 then
    if b == 40 then x.push 82 p else if b == 41 && c == 82 then x.pop else if b == 41 then x.turn 69 else x
  else if c == 68 then if b == 34 then x.pop else x
  else if b == 34 then x.push 68 p
  else if b == 125 then x.pop
  else if b == 39 && c == 86 then x.push 83 p
  else x
def step (x : St) (b : Int) (p : Nat) : St :=
  if x.top = 76 then
    if b == 40 then (x.turn 79).mark true
    else if b == 123 then (if (x.under.toNat : Int) == 68 || (x.under.toNat : Int) == 73 then x.turn 73 else x.turn 86)
    else if b == 36 then x.pop
    else plain x.pop x.under.toNat b p
  else if x.top = 79 then if b == 40 then (x.turn 65).mark false else plain (x.turn 67) 67 b p
  else if x.top = 69 then if b == 41 then x.pop else plain (x.turn 65) 65 b p
  else plain x x.top.toNat b p
def first : St := ⟨[(84, 0)], true⟩
def runK (x : St) (p : Nat) : List UInt8 → St
  | [] => x
  | b :: l => runK (step x b.toNat p) (p + 1) l
theorem runK_append (x : St) (p : Nat) (a b : List UInt8) : runK x p (a ++ b) = runK (runK x p a) (p + a.length) b := by
  induction a generalizing x p with
  | nil => rfl
  | cons c a ih => simp only [List.cons_append, runK, ih, List.length_cons]; congr 1; omega
/-- The stack behind a text. -/
def run (s : List UInt8) : St := runK first 0 s
theorem run_snoc (s : List UInt8) (b : UInt8) : run (s ++ [b]) = step (run s) b.toNat s.length := by
  unfold run
  rw [runK_append]
  simp [runK]
theorem run_take {s : List UInt8} {k : Nat} (h : k < s.length) : run (s.take (k + 1)) = step (run (s.take k)) s[k].toNat k := by
  rw [List.take_succ_eq_append_getElem h, run_snoc, List.length_take, Nat.min_eq_left (by omega)]
/-- The letters of all modes but Top; of those that may lie under others. -/
def lettersL : List UInt8 := [67, 80, 79, 83, 68, 66, 86, 73, 65, 82, 69, 76, 88, 35]
def innerL : List UInt8 := [84, 67, 80, 68, 86, 73, 65, 82, 66]
def WFl : List (UInt8 × Nat) → Prop
  | [] => False
  | [(c, _)] => c = 84
  | (c, _) :: (d, q) :: r => c ∈ lettersL ∧ d ∈ innerL ∧ WFl ((d, q) :: r)
def WF (x : St) : Prop := WFl x.l
theorem wf_first : WF first := rfl
theorem WF.mark {x : St} (h : WF x) (f : Bool) : WF (x.mark f) := h
theorem WF.push {x : St} (h : WF x) (ht : x.top ∈ innerL) {c : UInt8} (hc : c ∈ lettersL) (p : Nat) : WF (x.push c p) := by
  obtain ⟨l, f⟩ := x
  cases l with
  | nil => exact h.elim
  | cons a r => obtain ⟨d, q⟩ := a; exact ⟨hc, ht, h⟩
theorem WF.form {x : St} (h : WF x) (ht : x.top ≠ 84) : ∃ c p d q r, x.l = (c, p) :: (d, q) :: r ∧ c ∈ lettersL ∧ d ∈ innerL ∧ WFl ((d, q) :: r) := by
  obtain ⟨l, f⟩ := x
  match l, h with
  | [(c, p)], h => exact absurd h ht
  | (c, p) :: (d, q) :: r, h => exact ⟨c, p, d, q, r, rfl, h.1, h.2.1, h.2.2⟩
theorem WF.pop {x : St} (h : WF x) (ht : x.top ≠ 84) : WF x.pop := by
  obtain ⟨c, p, d, q, r, e, _, _, h3⟩ := h.form ht
  unfold WF St.pop
  rw [e]
  exact h3
theorem WF.turn {x : St} (h : WF x) (ht : x.top ≠ 84) {c : UInt8} (hc : c ∈ lettersL) : WF (x.turn c) := by
  obtain ⟨c', p, d, q, r, e, _, h2, h3⟩ := h.form ht
  unfold WF St.turn
  rw [e]
  exact ⟨hc, h2, h3⟩
theorem WF.top {x : St} (h : WF x) : x.top = 84 ∨ x.top ∈ lettersL := by
  obtain ⟨l, f⟩ := x
  match l, h with
  | [(c, p)], h => exact .inl h
  | (c, p) :: (d, q) :: r, h => exact .inr h.1
theorem WF.under {x : St} (h : WF x) (ht : x.top ≠ 84) : x.under ∈ innerL := by
  obtain ⟨c', p, d, q, r, e, _, h2, h3⟩ := h.form ht
  unfold St.under
  rw [e]
  exact h2
theorem toNat_is {c k : UInt8} : ((c.toNat : Int) == (k.toNat : Int)) = (c == k) := by
  rw [Bool.eq_iff_iff, beq_iff_eq, beq_iff_eq]
  constructor
  · intro h; exact UInt8.toNat_inj.1 (by omega)
  · rintro rfl; rfl
theorem wf_program {x : St} (h : WF x) (c : UInt8) (hc : x.top = c) (hin : c = 84 ∨ c = 67 ∨ c = 80) (b : Int) (p : Nat) : WF (program x c.toNat b p) := by
  have ht : x.top ∈ innerL := by rw [hc]; rcases hin with rfl | rfl | rfl <;> decide
  unfold program
  repeat' split
  all_goals first
    | exact h.push ht (by decide) p
    | exact (h.push ht (by decide) p).mark _
    | exact h.mark _
    | (refine (h.pop ?_).mark _
       rw [hc]; rintro rfl
       rename_i h9; exact h9 rfl)
theorem wf_plain {x : St} (h : WF x) (c : UInt8) (hc : x.top = c) (hn : c ≠ 76 ∧ c ≠ 79 ∧ c ≠ 69) (b : Int) (p : Nat) : WF (plain x c.toNat b p) := by
  have hl : c = 84 ∨ c ∈ lettersL := by rw [← hc]; exact h.top
  have hcase : c = 84 ∨ c = 67 ∨ c = 80 ∨ c = 83 ∨ c = 68 ∨ c = 66 ∨ c = 86 ∨ c = 73 ∨ c = 65 ∨ c = 82 ∨ c = 88 ∨ c = 35 := by
    rcases hl with hl | hl
    · exact .inl hl
    · simp [lettersL] at hl
      obtain ⟨n1, n2, n3⟩ := hn
      simp [n1, n2, n3] at hl
      simp [hl]
  rcases hcase with rfl | rfl | rfl | rfl | rfl | rfl | rfl | rfl | rfl | rfl | rfl | rfl
  all_goals
    unfold plain
    simp only [show ((84 : UInt8).toNat : Int) = 84 by decide, show ((67 : UInt8).toNat : Int) = 67 by decide, show ((80 : UInt8).toNat : Int) = 80 by decide, show ((83 : UInt8).toNat : Int) = 83 by decide, show ((68 : UInt8).toNat : Int) = 68 by decide, show ((66 : UInt8).toNat : Int) = 66 by decide, show ((86 : UInt8).toNat : Int) = 86 by decide, show ((73 : UInt8).toNat : Int) = 73 by decide, show ((65 : UInt8).toNat : Int) = 65 by decide, show ((82 : UInt8).toNat : Int) = 82 by decide, show ((88 : UInt8).toNat : Int) = 88 by decide, show ((35 : UInt8).toNat : Int) = 35 by decide, Int.reduceBEq, Bool.or_true, Bool.true_or, Bool.or_false, Bool.false_or, if_true, Bool.false_eq_true, if_false]
    first
      | exact wf_program h _ hc (by decide) b p
      | (repeat' split
         all_goals first
           | exact h
           | exact h.push (by rw [hc]; decide) (by decide) p
           | exact h.pop (by rw [hc]; decide)
           | exact (h.pop (by rw [hc]; decide)).mark _
           | exact h.turn (by rw [hc]; decide) (by decide))
theorem turn_top {x : St} {c : UInt8} (h : x.top ≠ 84) : (x.turn c).top = c := by
  obtain ⟨l, f⟩ := x
  cases l with
  | nil => exact absurd rfl h
  | cons a r => rfl
theorem inner_no {c : UInt8} (h : c ∈ innerL) : c ≠ 76 ∧ c ≠ 79 ∧ c ≠ 69 := by
  simp [innerL] at h
  rcases h with rfl | rfl | rfl | rfl | rfl | rfl | rfl | rfl | rfl <;> decide
theorem wf_step {x : St} (h : WF x) (b : Int) (p : Nat) : WF (step x b p) := by
  unfold step
  by_cases h1 : x.top = 76
  · have hn : x.top ≠ 84 := by rw [h1]; decide
    rw [if_pos h1]
    repeat' split
    all_goals first
      | exact (h.turn hn (by decide)).mark _
      | exact h.turn hn (by decide)
      | exact h.pop hn
      | exact wf_plain (h.pop hn) _ rfl (inner_no (h.under hn)) b p
  rw [if_neg h1]
  by_cases h2 : x.top = 79
  · have hn : x.top ≠ 84 := by rw [h2]; decide
    rw [if_pos h2]
    repeat' split
    all_goals first
      | exact (h.turn hn (by decide)).mark _
      | exact wf_plain (h.turn hn (by decide)) 67 (turn_top hn) (by decide) b p
  rw [if_neg h2]
  by_cases h3 : x.top = 69
  · have hn : x.top ≠ 84 := by rw [h3]; decide
    rw [if_pos h3]
    repeat' split
    all_goals first
      | exact h.pop hn
      | exact wf_plain (h.turn hn (by decide)) 65 (turn_top hn) (by decide) b p
  rw [if_neg h3]
  exact wf_plain h _ rfl ⟨h1, h2, h3⟩ b p
theorem wf_runK {x : St} (h : WF x) (p : Nat) (s : List UInt8) : WF (runK x p s) := by
  induction s generalizing x p with
  | nil => exact h
  | cons b s ih => exact ih (wf_step h _ _) _
theorem wf_run (s : List UInt8) : WF (run s) := wf_runK wf_first 0 s
end Go.Proofs.YtadlaaddpobhbaaDoor.Md
