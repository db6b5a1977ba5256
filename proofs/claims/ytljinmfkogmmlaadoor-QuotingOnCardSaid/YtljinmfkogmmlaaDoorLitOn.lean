/-
  The value of a form that goes on (layers 7, 8, 17), plainly. No program in sight.
-/
import Derived.Test.YtljinmfkogmmlaaDoorLitV
namespace Go.Proofs.YtljinmfkogmmlaaDoor.Li
set_option linter.unusedSimpArgs false
set_option linter.unusedVariables false
open Cls Md Mc Pa Quo Lx
/-- Bytes that mean themselves everywhere: at the top, in a Single, in a Double. -/
def calm (t : List UInt8) : Prop := ∀ b ∈ t, topB b.toNat = true ∧ b ≠ 39 ∧ dblB b = false
theorem calm_bt (t : List UInt8) : segT (t.map .bt) = t ∧ segV (t.map .bt) = t := by
  constructor
  · unfold segT
    rw [List.flatMap_map]
    show t.flatMap (fun b => [b]) = t
    simp
  · unfold segV
    rw [List.flatMap_map]
    show t.flatMap (fun b => [b]) = t
    simp
theorem calm_db {t : List UInt8} (h : calm t) : t.flatMap dblE = t := by
  induction t with
  | nil => rfl
  | cons b t ih =>
    rw [List.flatMap_cons, ih fun c hc => h c (List.mem_cons_of_mem _ hc)]
    unfold dblE
    rw [if_neg (by rw [(h b List.mem_cons_self).2.2]; simp)]
    rfl
theorem value_on (s : List UInt8) (state : Int) (t : List UInt8) (h : calm t) : valueL (encL s state false ++ t) = (s ++ t, true) := by
  unfold encL
  by_cases h4 : state = 4
  · rw [if_pos h4]
    obtain ⟨ok, hl⟩ := sgI_ok s [] (by simp)
    have ht := sgI_text s []
    have hv := sgI_val s []
    rw [List.nil_append] at ht hv
    show valueL ((39 :: s.flatMap fun b => if b = 39 then [39, 92, 39, 39] else [b]) ++ [] ++ t) = _
    rw [List.append_nil, ← ht, List.append_assoc, List.cons_append, (value_osg _ ok _ _).1, ← List.append_assoc, hv]
    intro e
    rcases List.mem_append.1 e with e | e
    · exact hl e
    · exact (h 39 e).2.1 rfl
  rw [if_neg h4]
  by_cases h5 : state = 5
  · rw [if_pos h5, dblL_eq]
    show valueL (34 :: s.flatMap dblE ++ [] ++ t) = _
    have := (value_odb (s ++ t)).1
    rw [List.flatMap_append, calm_db h] at this
    rw [List.append_nil]
    exact this
  · rw [if_neg h5]
    obtain ⟨l, ok, ht, hv⟩ := segs_pln s
    have := value_segs (l ++ t.map .bt) (fun g hg => by
      rcases List.mem_append.1 hg with k | k
      · exact ok g k
      · obtain ⟨b, hb, rfl⟩ := List.mem_map.1 k
        exact (h b hb).1)
    have h1 := calm_bt t
    unfold segT segV at *
    rw [List.flatMap_append, List.flatMap_append, h1.1, h1.2, ht, hv] at this
    exact this
/-- The law's own row of seven bytes. -/
def sevenL : List UInt8 := [97, 98, 99, 47, 46, 45, 95]
theorem seven_calm {t : List UInt8} (h : ∀ b ∈ t, b ∈ sevenL) : calm t := by
  intro b hb
  have h2 : ∀ c ∈ sevenL, topB c.toNat = true ∧ c ≠ 39 ∧ dblB c = false := by decide +kernel
  exact h2 b (h b hb)
/-- Behind a calm text the stack is Top alone. -/
theorem calm_top {t : List UInt8} (h : calm t) {x : St} (hx : TopX x) (p : Nat) : TopX (runK x p t) := by
  induction t generalizing x p with
  | nil => exact hx
  | cons b t ih => exact ih (fun c hc => h c (List.mem_cons_of_mem _ hc)) (top_by hx p (h b List.mem_cons_self).1) (p + 1)
end Go.Proofs.YtljinmfkogmmlaaDoor.Li
