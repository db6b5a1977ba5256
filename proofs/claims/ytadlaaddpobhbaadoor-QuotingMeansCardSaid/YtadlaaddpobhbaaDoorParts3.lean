/-
  Layer 7 (parts), on: how long a parameter is (layer 4); where frames stand; the parts of a text, plainly; where a part's inside begins and ends. Conditions: texts of at most 2^30 bytes.
-/
import Derived.Test.YtadlaaddpobhbaaDoorParts2
import Derived.Test.YtadlaaddpobhbaaDoorClass2
namespace Go.Proofs.YtadlaaddpobhbaaDoor.Cls
open Go.ChangeShapes Go.WideShapes Go.Deep Go.RowKit
set_option linter.unusedSimpArgs false
set_option linter.unusedVariables false
set_option maxRecDepth 100000
def parB (c : Int) : Bool := c == 64 || c == 42 || c == 35 || c == 63 || c == 45 || c == 36 || c == 33
/-- How long the parameter is that a dollar right ahead of a place names. -/
def paramN (s : List UInt8) (at_ : Nat) : Nat :=
  if nameN s at_ ≠ 0 then nameN s at_ else if h : at_ < s.length then (if parB s[at_].toNat = true then 1 else min (spanN digitB (s.drop at_)) 1) else 0
theorem paramN_le (s : List UInt8) (at_ : Nat) : at_ + paramN s at_ ≤ max at_ s.length := by
  have h1 : nameN s at_ ≤ s.length - at_ := by
    unfold nameN
    split
    · omega
    · have := spanN_le nameB (s.drop at_); rw [List.length_drop] at this; exact this
  unfold paramN
  split
  · omega
  · split
    · split <;> omega
    · omega
set_option maxHeartbeats 1000000 in
theorem param_any (s : List UInt8) (at_ : Nat) (w : World) (hs : s.length ≤ 1073741824) (ha : at_ ≤ s.length) : Calls Tryd.prog 92 #[.string (B s), .int .i64 at_] w fun e w' => e = .returned (.int .i64 (paramN s at_)) ∧ Below w.heap.size w w' := by
  have HN := Lib.hid (name_any s at_ · hs ha)
  have HD := Lib.hid (digits_any s at_ · hs ha)
  unfold paramN
  generalize nameN s at_ = n at *
  generalize spanN digitB (s.drop at_) = d at *
  by_cases h : n = 0
  · subst h
    rw [if_neg (by simp)]
    by_cases hl : at_ < s.length
    · rw [dif_pos hl]
      have p2 : (0 : Int) ≤ (at_ : Int) := by omega
      have p3 : (at_ : Int) < (s.length : Int) := by omega
      have p1 : decide ((s.length : Int) ≤ (at_ : Int)) = false := decide_eq_false (by omega)
      have p4 : decide (s.length ≤ at_) = false := decide_eq_false (by omega)
      generalize hR : (if parB s[at_].toNat = true then 1 else min d 1) = R
      have HR := Lib.hid hR
      clear hR
      go_enter Tryd.func92, Tryd.ntmps92
      go_wp2_with (first
        | (go_at_call 115; (with_reducible refine (HN.out _).mono ?_); rintro e w' ⟨rfl, rfl⟩)
        | (go_at_call 80; (with_reducible refine (HD.out _).mono ?_); rintro e w' ⟨rfl, rfl⟩))
      all_goals
        go_ret
        refine ⟨?_, by (repeat (first | exact Below.refl _ _ | assumption | with_reducible refine below_alloc ?_ _ | with_reducible refine below_grow ?_ _ | with_reducible refine below_drewN ?_ _ | with_reducible refine below_drew ?_ | with_reducible refine below_setCell ?_ (by first | (dsimp only; omega) | (simp; done) | (simp; omega)) _))⟩
        have hR := HR.out
        first
          | (rw [if_pos (by unfold parB; simp [*])] at hR; subst hR; simp [go_sem]; done)
          | (rw [if_neg (by unfold parB; simp [*])] at hR; subst hR; simp [go_sem]; done)
          | (rw [if_neg (by unfold parB; simp [*])] at hR; subst hR; simp [go_sem]; omega)
    · rw [dif_neg hl]
      have p1 : (s.length : Int) ≤ (at_ : Int) := by omega
      have p4 : s.length ≤ at_ := by omega
      go_enter Tryd.func92, Tryd.ntmps92
      go_wp2_with (go_at_call 115; (with_reducible refine (HN.out _).mono ?_); rintro e w' ⟨rfl, rfl⟩)
      go_ret
      exact ⟨rfl, by (repeat (first | exact Below.refl _ _ | assumption | with_reducible refine below_alloc ?_ _ | with_reducible refine below_grow ?_ _ | with_reducible refine below_drewN ?_ _ | with_reducible refine below_drew ?_ | with_reducible refine below_setCell ?_ (by first | (dsimp only; omega) | (simp; done) | (simp; omega)) _))⟩
  · rw [if_pos h]
    have h1 : decide ((0 : Int) < (n : Int)) = true := decide_eq_true (by omega)
    have h2 : 0 < n := by omega
    go_enter Tryd.func92, Tryd.ntmps92
    go_wp2_with (go_at_call 115; (with_reducible refine (HN.out _).mono ?_); rintro e w' ⟨rfl, rfl⟩)
    go_ret
    exact ⟨rfl, by (repeat (first | exact Below.refl _ _ | assumption | with_reducible refine below_alloc ?_ _ | with_reducible refine below_grow ?_ _ | with_reducible refine below_drewN ?_ _ | with_reducible refine below_drew ?_ | with_reducible refine below_setCell ?_ (by first | (dsimp only; omega) | (simp; done) | (simp; omega)) _))⟩
end Go.Proofs.YtadlaaddpobhbaaDoor.Cls
namespace Go.Proofs.YtadlaaddpobhbaaDoor.Pa
open Go.ChangeShapes Go.WideShapes Go.Deep Go.RowKit Cls Md Mc
set_option linter.unusedSimpArgs false
set_option linter.unusedVariables false
set_option maxRecDepth 100000
/-- All frames stand at most here. -/
def Upto (x : St) (p : Nat) : Prop := ∀ e ∈ x.l, e.2 ≤ p
theorem Upto.push {x : St} {p : Nat} (h : Upto x p) (c : UInt8) : Upto (x.push c p) p := fun e he => by
  rcases List.mem_cons.1 he with rfl | he
  · exact Nat.le_refl _
  · exact h e he
theorem Upto.pop {x : St} {p : Nat} (h : Upto x p) : Upto x.pop p := fun e he => h e (List.mem_of_mem_tail he)
theorem Upto.mark {x : St} {p : Nat} (h : Upto x p) (f : Bool) : Upto (x.mark f) p := h
theorem Upto.turn {x : St} {p : Nat} (h : Upto x p) (c : UInt8) : Upto (x.turn c) p := fun e he => by
  obtain ⟨l, f⟩ := x
  cases l with
  | nil => exact h e he
  | cons a r =>
    obtain ⟨d, q⟩ := a
    rcases List.mem_cons.1 he with rfl | he
    · exact h (d, q) (List.mem_cons_self ..)
    · exact h e (List.mem_cons_of_mem _ he)
theorem upto_ite {c : Prop} [Decidable c] {a b : St} {p : Nat} (h1 : Upto a p) (h2 : Upto b p) : Upto (if c then a else b) p := by
  split
  · exact h1
  · exact h2
theorem upto_program {x : St} {p : Nat} (h : Upto x p) (c b : Int) : Upto (Md.program x c b p) p := by
  unfold Md.program
  repeat' split
  all_goals first | exact h.push _ | exact (h.push _).mark _ | exact h.mark _ | exact h.pop.mark _
theorem upto_plain {x : St} {p : Nat} (h : Upto x p) (c b : Int) : Upto (Md.plain x c b p) p := by
  unfold Md.plain
  repeat' refine upto_ite ?_ ?_
  all_goals first | exact upto_program h _ _ | exact h | exact h.push _ | exact h.pop | exact h.pop.mark _ | exact h.turn _
theorem upto_step {x : St} {p : Nat} (h : Upto x p) (b : Int) : Upto (Md.step x b p) p := by
  unfold Md.step
  repeat' split
  all_goals first | exact (h.turn _).mark _ | exact h.turn _ | exact h.pop | exact upto_plain h.pop _ _ | exact upto_plain (h.turn _) _ _ | exact upto_plain h _ _
theorem upto_run {s : List UInt8} {k : Nat} (h : k < s.length) : Upto (run (s.take (k + 1))) k := by
  have H : ∀ j, j < s.length → Upto (run (s.take j)) j := by
    intro j
    induction j with
    | zero => intro _ e he; simp [run, runK, first] at he; subst he; exact Nat.le_refl _
    | succ j ih =>
      intro hj
      rw [run_take (by omega)]
      exact fun e he => Nat.le_succ_of_le (upto_step (ih (by omega)) _ e he)
  rw [run_take h]
  exact upto_step (H k h) _
theorem frs_le {s : List UInt8} {k : Nat} (h : k < s.length) : ∀ e ∈ frs (run (s.take (k + 1))), e.2 ≤ k := fun e he => upto_run h e (List.mem_reverse.1 (List.mem_of_mem_drop he))
/-- All parts begin at most here. -/
def FrLe (L : List Part) (p : Nat) : Prop := ∀ e ∈ L, e.fr ≤ p
theorem mem_modify {α : Type} {l : List α} {k : Nat} {f : α → α} {e : α} (h : e ∈ l.modify k f) : e ∈ l ∨ ∃ a ∈ l, e = f a := by
  induction l generalizing k with
  | nil => rw [List.modify_nil] at h; cases h
  | cons a r ih =>
    cases k with
    | zero =>
      rw [List.modify_zero_cons] at h
      rcases List.mem_cons.1 h with rfl | h
      · exact .inr ⟨a, List.mem_cons_self .., rfl⟩
      · exact .inl (List.mem_cons_of_mem _ h)
    | succ k =>
      rw [List.modify_succ_cons] at h
      rcases List.mem_cons.1 h with rfl | h
      · exact .inl (List.mem_cons_self ..)
      · rcases ih h with h | ⟨b, hb, e⟩
        · exact .inl (List.mem_cons_of_mem _ h)
        · exact .inr ⟨b, List.mem_cons_of_mem _ hb, e⟩
theorem FrLe.modify {L : List Part} {p : Nat} (h : FrLe L p) (k : Nat) {f : Part → Part} (hf : ∀ a, (f a).fr = a.fr) : FrLe (L.modify k f) p := fun e he => by
  rcases mem_modify he with q | ⟨a, ha, rfl⟩
  · exact h e q
  · rw [hf]; exact h a ha
theorem shutP_fr {a1 p : Nat} {F : List (UInt8 × Nat)} {L : List Part} {H : List Nat} (h : FrLe L p) : FrLe (shutP a1 F L H).1 p := by
  induction H generalizing L with
  | nil => exact h
  | cons k r ih =>
    unfold shutP
    split
    · exact h
    · exact ih (h.modify k fun _ => rfl)
theorem openP_fr {i p : Nat} {F : List (UInt8 × Nat)} {L : List Part} {H : List Nat} (h : FrLe L p) (hF : ∀ e ∈ F, e.2 ≤ p) : FrLe (openP i F L H).1 p := by
  induction F generalizing i L H with
  | nil => exact h
  | cons f F ih =>
    unfold openP
    split
    · exact ih (h.modify _ fun _ => rfl) (fun e he => hF e (List.mem_cons_of_mem _ he))
    · refine ih (fun e he => ?_) (fun e he => hF e (List.mem_cons_of_mem _ he))
      rcases List.mem_append.1 he with q | q
      · exact h e q
      · rw [List.mem_singleton] at q
        subst q
        exact hF f (List.mem_cons_self ..)
theorem par_fr {s : List UInt8} : ∀ k, k ≤ s.length → FrLe (par (s.take k)).1 (k - 1) := by
  intro k
  induction k with
  | zero => intro _ e he; simp [par, parK] at he
  | succ k ih =>
    intro hk
    rw [par_take (by omega)]
    unfold seeP
    exact openP_fr (shutP_fr fun e he => by have := ih (by omega) e he; omega) (frs_le (by omega))
theorem par_len {s : List UInt8} : ∀ k, k ≤ s.length → (par (s.take k)).1.length ≤ k * (s.length + 1) ∧ (par (s.take k)).2.length ≤ s.length := by
  intro k
  induction k with
  | zero => intro _; exact ⟨by simp [par, parK], by simp [par, parK]⟩
  | succ k ih =>
    intro hk
    obtain ⟨h1, h2⟩ := ih (by omega)
    rw [par_take (by omega)]
    have hF : (frs (run (s.take (k + 1)))).length ≤ s.length := by
      have := run_len (s.take (k + 1))
      unfold frs
      rw [List.length_drop, List.length_reverse]
      rw [List.length_take] at this
      omega
    generalize frs (run (s.take (k + 1))) = F at *
    generalize par (s.take k) = S at *
    unfold seeP
    have h3 := shutP_len (k + 1) F S.1 S.2.reverse
    have h4 := shutP_hlen (a1 := k + 1) (F := F) (L := S.1) (H := S.2.reverse)
    generalize shutP (k + 1) F S.1 S.2.reverse = X at *
    have h5 := openP_len 0 F X.1 X.2.reverse (by rw [List.length_reverse]; omega) (Nat.zero_le _)
    rw [Nat.add_mul]
    omega
/-- A part at the text's end. -/
def finP (s : List UInt8) (p : Part) : Part := if p.c = 76 then ⟨p.c, p.fr, p.fr + 1 + paramN s (p.fr + 1), p.up, false⟩ else if p.op = true then ⟨p.c, p.fr, s.length, p.up, true⟩ else p
/-- The parts of a text. -/
def partsL (s : List UInt8) : List Part := (par s).1.map (finP s)
theorem par_here {s : List UInt8} : ∀ e ∈ (par s).1, e.fr < s.length := fun e he => by
  have h := par_fr (s := s) s.length (Nat.le_refl _) e (by rw [List.take_length]; exact he)
  rcases Nat.eq_zero_or_pos s.length with h0 | h0
  · rw [List.eq_nil_of_length_eq_zero h0] at he
    simp [par, parK] at he
  · omega
end Go.Proofs.YtadlaaddpobhbaaDoor.Pa
