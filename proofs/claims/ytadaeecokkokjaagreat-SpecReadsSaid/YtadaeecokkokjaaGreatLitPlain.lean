/-
  What a word means (layer 8), plainly: the pieces of a text. No program in sight.
-/
import Derived.Test.YtadaeecokkokjaaGreatPartsA
set_option linter.unusedSimpArgs false
set_option linter.unusedVariables false
namespace Go.Proofs.YtadaeecokkokjaaGreat.Li
open Cls Md Mc Pa
/-- A piece: whether it is expanded, whether it is quoted, its text. -/
structure Pc where
  ex : Bool
  qu : Bool
  tx : List UInt8
/-- The number of the part that begins at a place, and one; the last one's ahead. -/
def idxR : List Part → Nat → Nat
  | [], _ => 0
  | p :: r, at_ => if p.fr = at_ then r.length + 1 else idxR r at_
def idxP (L : List Part) (at_ : Nat) : Nat := idxR L.reverse at_
theorem idxP_snoc (L : List Part) (p : Part) (at_ : Nat) : idxP (L ++ [p]) at_ = if at_ = p.fr then L.length + 1 else idxP L at_ := by
  unfold idxP
  rw [List.reverse_append, List.reverse_singleton, List.singleton_append]
  unfold idxR
  rw [List.length_reverse]
  by_cases h : p.fr = at_
  · rw [if_pos h, if_pos h.symm]
  · rw [if_neg h, if_neg (fun e => h e.symm)]
    cases L.reverse <;> rfl
theorem idxR_le (r : List Part) (at_ : Nat) : idxR r at_ ≤ r.length := by
  induction r with
  | nil => exact Nat.le_refl _
  | cons p r ih => unfold idxR; rw [List.length_cons]; split <;> omega
theorem idxP_le (L : List Part) (at_ : Nat) : idxP L at_ ≤ L.length := by have := idxR_le L.reverse at_; rwa [List.length_reverse] at this
/-- The part that begins at a place. -/
def atP (L : List Part) (at_ : Nat) : Option Part := if idxP L at_ = 0 then none else L[idxP L at_ - 1]?
theorem idxP_get (L : List Part) (at_ : Nat) (h : idxP L at_ ≠ 0) : ∃ p, L[idxP L at_ - 1]? = some p ∧ p.fr = at_ := by
  have H : ∀ r : List Part, idxR r at_ ≠ 0 → ∃ p, r.reverse[idxR r at_ - 1]? = some p ∧ p.fr = at_ := by
    intro r
    induction r with
    | nil => intro h; exact absurd rfl h
    | cons p r ih =>
      intro h
      by_cases e : p.fr = at_
      · refine ⟨p, ?_, e⟩
        unfold idxR
        rw [if_pos e]
        simp
      · unfold idxR at h ⊢
        rw [if_neg e] at h ⊢
        obtain ⟨q, h1, h2⟩ := ih h
        refine ⟨q, ?_, h2⟩
        have := idxR_le r at_
        rw [List.reverse_cons, List.getElem?_append_left (by rw [List.length_reverse]; omega)]
        exact h1
  have := H L.reverse h
  rwa [List.reverse_reverse] at this
theorem atP_none {L : List Part} {at_ : Nat} (h : idxP L at_ = 0) : atP L at_ = none := if_pos h
theorem atP_some {L : List Part} {at_ : Nat} (h : idxP L at_ ≠ 0) : ∃ p, atP L at_ = some p ∧ L[idxP L at_ - 1]? = some p ∧ p.fr = at_ := by
  obtain ⟨p, h1, h2⟩ := idxP_get L at_ h
  exact ⟨p, by unfold atP; rw [if_neg h, h1], h1, h2⟩
/-- Whether a part is a dollar that means itself. -/
def loneP (p : Part) : Bool := p.c == 76 && p.fin == p.fr + 1
def subT (s : List UInt8) (a b : Nat) : List UInt8 := (s.take b).drop a
def escB (b : Int) : Bool := b == 36 || b == 96 || b == 34 || b == 92
/-- What an Escape within a Double stands for. -/
def escT (s : List UInt8) (p : Part) : List UInt8 :=
  if p.fin < p.fr + 2 then [] else
  if escB (s.getD (p.fr + 1) 0).toNat = true then [s.getD (p.fr + 1) 0] else if (((s.getD (p.fr + 1) 0).toNat : Int) == 10) = true then [] else subT s p.fr p.fin
/-- The pieces of a Double's inside. -/
def dblP (s : List UInt8) (L : List Part) (tt : Nat) : Nat → Nat → List UInt8 → Bool → List Pc
  | 0, _, _, _ => []
  | f + 1, at_, here, x =>
    if at_ < tt then
      match atP L at_ with
      | none => dblP s L tt f (at_ + 1) (here ++ [s.getD at_ 0]) x
      | some k =>
        if loneP k then dblP s L tt f (at_ + 1) (here ++ [s.getD at_ 0]) x
        else if k.c = 88 then dblP s L tt f k.fin (here ++ escT s k) x
        else (if here = [] then [] else [⟨false, true, here⟩]) ++ ⟨true, true, subT s k.fr k.fin⟩ :: dblP s L tt f k.fin [] true
    else if here = [] ∧ x = true then [] else [⟨false, true, here⟩]
def flushP (pl : List UInt8) : List Pc := if pl = [] then [] else [⟨false, false, pl⟩]
/-- Where a part's inside begins and ends. -/
def insF (p : Part) : Nat := p.fr + headI (mo p.c)
def insT (p : Part) : Nat := max (p.fin - tailI (mo p.c) p.op) (insF p)
/-- The piece of an Escape or a Single. -/
def quoP (s : List UInt8) (p : Part) : Option Pc :=
  if p.c = 83 then some ⟨false, true, subT s (insF p) (insT p)⟩
  else if subT s (p.fr + 1) p.fin = [] ∨ subT s (p.fr + 1) p.fin = [10] then none else some ⟨false, true, subT s (p.fr + 1) p.fin⟩
/-- The pieces of a text from a place on; pl: the bytes that stand for themselves, and are not told yet. -/
def eachP (s : List UInt8) (L : List Part) : Nat → Nat → List UInt8 → List Pc
  | 0, _, _ => []
  | f + 1, at_, pl =>
    if at_ < s.length then
      match atP L at_ with
      | none => eachP s L f (at_ + 1) (pl ++ [s.getD at_ 0])
      | some p =>
        if loneP p = true ∨ p.c = 35 then eachP s L f p.fin (pl ++ subT s p.fr p.fin)
        else if p.c = 88 ∨ p.c = 83 then
          match quoP s p with
          | none => eachP s L f p.fin pl
          | some q => flushP pl ++ q :: eachP s L f p.fin []
        else if p.c = 68 then flushP pl ++ dblP s L (insT p) (s.length + 1) (insF p) [] false ++ eachP s L f p.fin []
        else flushP pl ++ ⟨true, false, subT s p.fr p.fin⟩ :: eachP s L f p.fin []
    else flushP pl
def piecesL (s : List UInt8) : List Pc := eachP s (partsL s) (s.length + 1) 0 []
/-- The value of a text. -/
def valP : List Pc → List UInt8 → List UInt8 × Bool
  | [], a => (a, true)
  | p :: r, a => if p.ex = true then ([], false) else valP r (a ++ p.tx)
def valueL (s : List UInt8) : List UInt8 × Bool := valP (piecesL s) []
/-- All parts end behind where they begin, within the text. -/
def Sound (s : List UInt8) (L : List Part) : Prop := ∀ p ∈ L, p.fr < p.fin ∧ p.fin ≤ s.length
/-- What is closed ends behind where it begins. -/
def Shut (L : List Part) (n : Nat) : Prop := ∀ p ∈ L, p.op = false → p.fr < p.fin ∧ p.fin ≤ n
theorem Shut.mono {L : List Part} {n m : Nat} (h : Shut L n) (hm : n ≤ m) : Shut L m := fun p hp ho => ⟨(h p hp ho).1, Nat.le_trans (h p hp ho).2 hm⟩
theorem shutP_shut {a : Nat} {F : List (UInt8 × Nat)} {L : List Part} {H : List Nat} (h : Shut L (a + 1)) (hf : FrLe L a) : Shut (shutP (a + 1) F L H).1 (a + 1) := by
  induction H generalizing L with
  | nil => exact h
  | cons k r ih =>
    unfold shutP
    split
    · exact h
    · refine ih (fun p hp ho => ?_) (hf.modify k fun _ => rfl)
      rcases mem_modify hp with q | ⟨b, hb, rfl⟩
      · exact h p q ho
      · have := hf b hb
        exact ⟨Nat.lt_succ_of_le this, Nat.le_refl _⟩
theorem openP_shut {i n : Nat} {F : List (UInt8 × Nat)} {L : List Part} {H : List Nat} (h : Shut L n) : Shut (openP i F L H).1 n := by
  induction F generalizing i L H with
  | nil => exact h
  | cons f F ih =>
    unfold openP
    split
    · refine ih fun p hp ho => ?_
      rcases mem_modify hp with q | ⟨b, hb, rfl⟩
      · exact h p q ho
      · exact h b hb ho
    · refine ih fun p hp ho => ?_
      rcases List.mem_append.1 hp with q | q
      · exact h p q ho
      · rw [List.mem_singleton] at q
        subst q
        cases ho
theorem par_shut {s : List UInt8} : ∀ k, k ≤ s.length → Shut (par (s.take k)).1 k := by
  intro k
  induction k with
  | zero => intro _ e he; simp [par, parK] at he
  | succ k ih =>
    intro hk
    rw [par_take (by omega)]
    unfold seeP
    exact openP_shut (shutP_shut ((ih (by omega)).mono (Nat.le_succ k)) fun e he => by have := par_fr k (by omega) e he; omega)
theorem parts_sound (s : List UInt8) : Sound s (partsL s) := by
  intro p hp
  obtain ⟨q, hq, rfl⟩ := List.mem_map.1 hp
  have h1 := par_here q hq
  have h2 := par_shut (s := s) s.length (Nat.le_refl _) q (by rw [List.take_length]; exact hq)
  have h3 := paramN_le s (q.fr + 1)
  unfold finP
  split
  · dsimp only; omega
  · split
    · exact ⟨h1, Nat.le_refl _⟩
    · rename_i ho
      exact h2 (by simpa using ho)
end Go.Proofs.YtadaeecokkokjaaGreat.Li
