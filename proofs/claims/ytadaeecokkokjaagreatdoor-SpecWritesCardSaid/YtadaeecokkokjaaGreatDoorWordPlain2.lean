/-
  Closed forms are words (layer 17), plainly, on: what stands at a closed form's head; the tokens of a closed form with a little behind it; no closed form is a reserved word. No program in sight.
-/
import Derived.Test.YtadaeecokkokjaaGreatDoorLexA
import Derived.Test.YtadaeecokkokjaaGreatDoorWordPlain
set_option linter.unusedSimpArgs false
set_option linter.unusedVariables false
/-
  The walk of layer 9's reference (token): all tokens of a text in which nothing is awaited. Conditions: texts of at most 2^29 bytes.
-/
namespace Go.Proofs.YtadaeecokkokjaaGreatDoor.Lx
set_option linter.unusedSimpArgs false
set_option linter.unusedVariables false
open Go.ChangeShapes Go.WideShapes Go.Deep Go.RowKit Cls Md
set_option maxRecDepth 100000
/-- A token: its kind, its end, whether it is open. -/
structure Tk where
  kind : Int
  a : Nat
  m : Nat
  o : Bool
def Tk.cells (t : Tk) : List Value := [.int .i64 t.kind, .int .i64 t.a, .int .i64 t.m, .bool t.o]
/-- One token stands at a place, and nothing is awaited behind it. -/
def TokAt (s : List UInt8) (t : Tk) : Prop := t.a < t.m ∧ t.m ≤ s.length ∧ ∃ h : t.a < s.length,
  (0 < blankN (s.drop t.a) ∧ t.kind = 1 ∧ t.m = t.a + blankN (s.drop t.a) ∧ t.o = false) ∨
  (blankN (s.drop t.a) = 0 ∧ s[t.a] = 10 ∧ t.kind = 2 ∧ t.m = t.a + 1 ∧ t.o = false) ∨
  (blankN (s.drop t.a) = 0 ∧ s[t.a] ≠ 10 ∧ s[t.a] ≠ 35 ∧ opL (s.drop t.a) ≠ 0 ∧ opL (s.drop t.a) ≠ 4 ∧ opL (s.drop t.a) ≠ 5 ∧ t.kind = 4 ∧ t.m = t.a + (opT (opL (s.drop t.a))).length ∧ t.o = false) ∨
  (blankN (s.drop t.a) = 0 ∧ s[t.a] ≠ 10 ∧ s[t.a] ≠ 35 ∧ opL (s.drop t.a) = 0 ∧
    (∀ h : t.a + spanN digitB (s.drop t.a) < s.length, 0 < spanN digitB (s.drop t.a) → s[t.a + spanN digitB (s.drop t.a)] ≠ 60 ∧ s[t.a + spanN digitB (s.drop t.a)] ≠ 62) ∧
    t.kind = 6 ∧ t.m = endN s t.a ∧ t.o = !(lets (run ((s.take (endN s t.a)).drop t.a)).l == [84] || lets (run ((s.take (endN s t.a)).drop t.a)).l == [84, 76]))
/-- The tokens from a place on. -/
inductive Toks (s : List UInt8) : Nat → List Tk → Prop
  | done : Toks s s.length []
  | more {t : Tk} {l : List Tk} : TokAt s t → Toks s t.m l → Toks s t.a (t :: l)
theorem Toks.le {s : List UInt8} {a : Nat} {l : List Tk} (h : Toks s a l) : a ≤ s.length := by
  cases h with
  | done => exact Nat.le_refl _
  | more h _ => have := h.1; have := h.2.1; omega
end Go.Proofs.YtadaeecokkokjaaGreatDoor.Lx
namespace Go.Proofs.YtadaeecokkokjaaGreatDoor.Lx
open Cls Md Quo
/-- What stands at a closed form's head. -/
def Head (w : List UInt8) : Prop := ∃ c t, w = c :: t ∧ ((c = 39 ∨ c = 34) ∨ (c = 92 ∧ ∃ d t', t = d :: t' ∧ d ≠ 10) ∨
  (safeB c = true ∧ resB w = false ∧ ∃ p d t', w = p ++ d :: t' ∧ (∀ b ∈ p, digitB b = true) ∧ digitB d = false ∧ d ≠ 60 ∧ d ≠ 62))
theorem byte_all {P : UInt8 → Bool} (h : ∀ n : Fin 256, P (UInt8.ofNat n.val) = true) (b : UInt8) : P b = true := by
  have := h ⟨b.toNat, b.toNat_lt⟩
  simpa using this
theorem digit_safe (b : UInt8) (h : digitB b = true) : safeB b = true ∧ b ≠ 10 := by
  have := byte_all (P := fun b => !digitB b || (safeB b && b != 10)) (by decide +kernel) b
  simpa [h] using this
theorem safe_no (b : UInt8) (h : safeB b = true) : b ≠ 10 ∧ b ≠ 35 ∧ b ≠ 32 ∧ b ≠ 9 ∧ b ≠ 92 ∧ b ≠ 60 ∧ b ≠ 62 ∧ b ≠ 38 ∧ b ≠ 124 ∧ b ≠ 59 ∧ b ≠ 40 ∧ b ≠ 41 := by
  have := byte_all (P := fun b => !safeB b || (b != 10 && b != 35 && b != 32 && b != 9 && b != 92 && b != 60 && b != 62 && b != 38 && b != 124 && b != 59 && b != 40 && b != 41)) (by decide +kernel) b
  simpa [h, and_assoc] using this
theorem escB_safe {b : UInt8} (h : safeB b = true) : escB b = [b] := by
  unfold escB
  rw [if_neg (safe_no b h).1, if_pos h]
theorem escB_un {b : UInt8} (h : safeB b = false) : escB b = [39, 10, 39] ∨ (b ≠ 10 ∧ escB b = [92, b]) := by
  unfold escB
  by_cases h1 : b = 10
  · rw [if_pos h1]; exact .inl rfl
  · rw [if_neg h1, if_neg (by rw [h]; simp)]; exact .inr ⟨h1, rfl⟩
theorem esc_split : ∀ s : List UInt8, s.all digitB = false → ∃ p d t', s.flatMap escB = p ++ d :: t' ∧ (∀ b ∈ p, digitB b = true) ∧ digitB d = false ∧ d ≠ 60 ∧ d ≠ 62
  | [], h => by simp at h
  | b :: l, h => by
    cases hb : digitB b with
    | true =>
      rw [List.all_cons, hb, Bool.true_and] at h
      obtain ⟨p, d, t', h1, h2, h3⟩ := esc_split l h
      refine ⟨b :: p, d, t', ?_, fun c hc => ?_, h3⟩
      · rw [List.flatMap_cons, escB_safe (digit_safe b hb).1, h1]; rfl
      · rcases List.mem_cons.1 hc with rfl | hc
        · exact hb
        · exact h2 c hc
    | false =>
      rw [List.flatMap_cons]
      cases hs : safeB b with
      | true =>
        rw [escB_safe hs]
        exact ⟨[], b, l.flatMap escB, rfl, by simp, hb, (safe_no b hs).2.2.2.2.2.1, (safe_no b hs).2.2.2.2.2.2.1⟩
      | false =>
        rcases escB_un hs with e | ⟨_, e⟩
        · rw [e]; exact ⟨[], 39, 10 :: 39 :: l.flatMap escB, rfl, by simp, by decide +kernel, by decide, by decide⟩
        · rw [e]; exact ⟨[], 92, b :: l.flatMap escB, rfl, by simp, by decide +kernel, by decide, by decide⟩
theorem esc_same : ∀ s : List UInt8, 39 ∉ s.flatMap escB → 92 ∉ s.flatMap escB → s.flatMap escB = s
  | [], _, _ => rfl
  | b :: l, h1, h2 => by
    rw [List.flatMap_cons] at h1 h2 ⊢
    simp only [List.mem_append, not_or] at h1 h2
    cases hs : safeB b with
    | true => rw [escB_safe hs, esc_same l h1.2 h2.2]; rfl
    | false =>
      rcases escB_un hs with e | ⟨_, e⟩
      · rw [e] at h1; exact absurd h1.1 (by simp)
      · rw [e] at h2; exact absurd h2.1 (by simp)
theorem res_no {w : List UInt8} (h : resB w = true) : 39 ∉ w ∧ 92 ∉ w ∧ 34 ∉ w := by
  have h2 : ∀ x ∈ resL, 39 ∉ x ∧ 92 ∉ x ∧ 34 ∉ x := by decide +kernel
  exact h2 w (List.contains_iff_mem.1 h)
theorem head_pln (s : List UInt8) : Head (plnL s) := by
  unfold plnL
  by_cases h0 : s = []
  · rw [if_pos h0]; exact ⟨39, [39], rfl, .inl (.inl rfl)⟩
  rw [if_neg h0]
  obtain ⟨b, l, rfl⟩ := List.exists_cons_of_ne_nil h0
  cases hs : safeB b with
  | false =>
    have e : headL (b :: l) = [] := by unfold headL; rw [if_neg (by simp [hs])]
    rw [e, List.nil_append, List.flatMap_cons]
    rcases escB_un hs with e | ⟨h1, e⟩
    · rw [e]; exact ⟨39, _, rfl, .inl (.inl rfl)⟩
    · rw [e]; exact ⟨92, _, rfl, .inr (.inl ⟨rfl, b, _, rfl, h1⟩)⟩
  | true =>
    cases hr : riskB (b :: l) with
    | true =>
      have e : headL (b :: l) = [92] := by unfold headL; rw [if_pos (by simp [hs, hr])]
      rw [e, List.flatMap_cons, escB_safe hs]
      exact ⟨92, _, rfl, .inr (.inl ⟨rfl, b, _, rfl, (safe_no b hs).1⟩)⟩
    | false =>
      have e : headL (b :: l) = [] := by unfold headL; rw [if_neg (by simp [hr])]
      rw [e, List.nil_append]
      unfold riskB at hr
      rw [Bool.or_eq_false_iff] at hr
      obtain ⟨r1, r2⟩ := hr
      have r3 : (b :: l).all digitB = false := by
        rw [Bool.and_eq_false_iff] at r2
        rcases r2 with r | r
        · simp at r
        · exact r
      refine ⟨b, l.flatMap escB, by rw [List.flatMap_cons, escB_safe hs]; rfl, .inr (.inr ⟨hs, ?_, esc_split _ r3⟩)⟩
      cases hq : resB ((b :: l).flatMap escB) with
      | false => rfl
      | true =>
        have h3 := res_no hq
        rw [esc_same _ h3.1 h3.2.1, r1] at hq
        cases hq
theorem head_enc (s : List UInt8) (state : Int) : Head (encL s state true) := by
  unfold encL
  split
  · exact ⟨39, _, rfl, .inl (.inl rfl)⟩
  · split
    · exact ⟨34, _, rfl, .inl (.inr rfl)⟩
    · exact head_pln s
end Go.Proofs.YtadaeecokkokjaaGreatDoor.Lx
