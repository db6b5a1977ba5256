/-
  The parts of a text (layer 7), plainly: what is noted behind each byte. No program in sight.
-/
import Derived.Test.YtadaeecokkokjaaGreatMachA
set_option linter.unusedSimpArgs false
set_option linter.unusedVariables false
namespace Go.Proofs.YtadaeecokkokjaaGreat.Pa
open Cls Md Mc
/-- A part: its mode's letter, where it begins and ends, the part around it, whether it is open. -/
structure Part where
  c : UInt8
  fr : Nat
  fin : Nat
  up : Int
  op : Bool
def pt0 : Part := ⟨84, 0, 0, 0, false⟩
/-- The letter as which one counts. -/
def cnt (c : UInt8) : UInt8 := if c = 79 then 67 else if c = 69 then 65 else c
def shutOne (a1 : Nat) (p : Part) : Part := ⟨p.c, p.fr, a1, p.up, false⟩
def markOne (c : UInt8) (p : Part) : Part := ⟨cnt c, p.fr, p.fin, p.up, p.op⟩
/-- What was shut, the numbers' last first. -/
def shutP (a1 : Nat) (F : List (UInt8 × Nat)) : List Part → List Nat → List Part × List Nat
  | L, [] => (L, [])
  | L, k :: r => if r.length < F.length ∧ (F.getD r.length (0, 0)).2 = (L.getD k pt0).fr then (L, k :: r) else shutP a1 F (L.modify k (shutOne a1)) r
/-- What was opened. -/
def openP : Nat → List (UInt8 × Nat) → List Part → List Nat → List Part × List Nat
  | _, [], L, H => (L, H)
  | i, f :: F, L, H =>
    if i < H.length then openP (i + 1) F (L.modify (H.getD i 0) (markOne f.1)) H
    else openP (i + 1) F (L ++ [⟨cnt f.1, f.2, 0, (if 0 < i then ((H.getD (i - 1) 0 : Nat) : Int) else -1), true⟩]) (H ++ [L.length])
def seeP (a : Nat) (F : List (UInt8 × Nat)) (S : List Part × List Nat) : List Part × List Nat :=
  openP 0 F (shutP (a + 1) F S.1 S.2.reverse).1 (shutP (a + 1) F S.1 S.2.reverse).2.reverse
/-- A stack's frames but Top, the first one first. -/
def frs (x : St) : List (UInt8 × Nat) := x.l.reverse.drop 1
def parK (x : St) (p : Nat) (S : List Part × List Nat) : List UInt8 → List Part × List Nat
  | [] => S
  | b :: l => parK (Md.step x b.toNat p) (p + 1) (seeP p (frs (Md.step x b.toNat p)) S) l
theorem parK_append (x : St) (p : Nat) (S : List Part × List Nat) (a b : List UInt8) : parK x p S (a ++ b) = parK (runK x p a) (p + a.length) (parK x p S a) b := by
  induction a generalizing x p S with
  | nil => rfl
  | cons c a ih => simp only [List.cons_append, runK, parK, ih, List.length_cons]; congr 1; omega
def par (s : List UInt8) : List Part × List Nat := parK first 0 ([], []) s
theorem par_snoc (s : List UInt8) (b : UInt8) : par (s ++ [b]) = seeP s.length (frs (run (s ++ [b]))) (par s) := by
  rw [run_snoc]
  unfold par
  rw [parK_append]
  simp [parK, run]
theorem par_take {s : List UInt8} {k : Nat} (h : k < s.length) : par (s.take (k + 1)) = seeP k (frs (run (s.take (k + 1)))) (par (s.take k)) := by
  rw [List.take_succ_eq_append_getElem h, par_snoc, List.length_take, Nat.min_eq_left (by omega)]
/-- The numbers are of parts. -/
def InL (L : List Part) (H : List Nat) : Prop := ∀ k ∈ H, k < L.length
theorem InL.modify {L : List Part} {H : List Nat} (h : InL L H) (k : Nat) (f : Part → Part) : InL (L.modify k f) H := fun j hj => by rw [List.length_modify]; exact h j hj
theorem InL.push {L : List Part} {H : List Nat} (h : InL L H) (p : Part) : InL (L ++ [p]) (H ++ [L.length]) := fun j hj => by
  rw [List.length_append, List.length_singleton]
  rcases List.mem_append.1 hj with q | q
  · have := h j q; omega
  · rw [List.mem_singleton] at q; omega
theorem shutP_len (a1 : Nat) (F : List (UInt8 × Nat)) (L : List Part) (H : List Nat) : (shutP a1 F L H).1.length = L.length := by
  induction H generalizing L with
  | nil => rfl
  | cons k r ih =>
    unfold shutP
    split
    · rfl
    · rw [ih, List.length_modify]
theorem shutP_in {a1 : Nat} {F : List (UInt8 × Nat)} {L : List Part} {H : List Nat} (h : InL L H) : InL (shutP a1 F L H).1 (shutP a1 F L H).2 := by
  induction H generalizing L with
  | nil => exact h
  | cons k r ih =>
    unfold shutP
    split
    · exact h
    · exact ih (L := L.modify k (shutOne a1)) (InL.modify (fun j hj => h j (List.mem_cons_of_mem _ hj)) k _)
theorem shutP_hlen {a1 : Nat} {F : List (UInt8 × Nat)} {L : List Part} {H : List Nat} : (shutP a1 F L H).2.length ≤ F.length := by
  induction H generalizing L with
  | nil => exact Nat.zero_le _
  | cons k r ih =>
    unfold shutP
    split
    · rename_i h; exact h.1
    · exact ih
theorem openP_in {i : Nat} {F : List (UInt8 × Nat)} {L : List Part} {H : List Nat} (h : InL L H) : InL (openP i F L H).1 (openP i F L H).2 := by
  induction F generalizing i L H with
  | nil => exact h
  | cons f F ih =>
    unfold openP
    split
    · exact ih (h.modify _ _)
    · exact ih (h.push _)
theorem openP_len (i : Nat) (F : List (UInt8 × Nat)) (L : List Part) (H : List Nat) (hi : H.length ≤ i + F.length) (hi2 : i ≤ H.length) : (openP i F L H).1.length + H.length = L.length + (i + F.length) ∧ (openP i F L H).2.length = i + F.length := by
  induction F generalizing i L H with
  | nil => simp only [openP, List.length_nil] at *; omega
  | cons f F ih =>
    unfold openP
    simp only [List.length_cons] at *
    split
    · rename_i hlt
      have := ih (i + 1) (L.modify (H.getD i 0) (markOne f.1)) H (by omega) (by omega)
      rw [List.length_modify] at this
      omega
    · rename_i hge
      have := ih (i + 1) (L ++ [⟨cnt f.1, f.2, 0, (if 0 < i then ((H.getD (i - 1) 0 : Nat) : Int) else -1), true⟩]) (H ++ [L.length]) (by simp; omega) (by simp; omega)
      simp only [List.length_append, List.length_singleton] at this
      omega
theorem par_in (s : List UInt8) : InL (par s).1 (par s).2 := by
  have h : ∀ k ≤ s.length, InL (par (s.take k)).1 (par (s.take k)).2 := by
    intro k
    induction k with
    | zero => intro _ j hj; rw [List.take_zero] at hj; simp [par, parK] at hj
    | succ k ih =>
      intro hk
      rw [par_take (by omega)]
      unfold seeP
      refine openP_in fun j hj => ?_
      exact shutP_in (H := (par (s.take k)).2.reverse) (fun j hj => ih (by omega) j (List.mem_reverse.1 hj)) j (List.mem_reverse.1 hj)
  have := h s.length (Nat.le_refl _)
  rwa [List.take_length] at this
end Go.Proofs.YtadaeecokkokjaaGreat.Pa
