/-
  The plain law of joined edits: one edit for two that touch does what both do. No program in sight.
-/
import Derived.Test.YtkinjjgaecbogaaEdit4
namespace Go.Proofs.Ytkinjjgaecbogaa
/-- An edit parts a text, and puts what comes in the place of what goes. -/
def Sp (s d i r : List UInt8) (n : Nat) : Prop := ∃ A Z, s = A ++ (d ++ Z) ∧ A.length = n ∧ r = A ++ (i ++ Z)
theorem sp_of {s d i : List UInt8} {n : Nat} (h : wrong s n d i = 0) : Sp s d i (does s n d i) n := by
  obtain ⟨m, hm, h1, h2, h3⟩ := wrong_zero h
  obtain rfl : n = m := by omega
  have hp : (s.drop n).take d.length = d := by simpa [pre] using h2
  refine ⟨s.take n, s.drop (n + d.length), ?_, by simp; omega, rfl⟩
  conv => lhs; rw [← List.take_append_drop n s, ← List.take_append_drop d.length (s.drop n), hp, List.drop_drop]
theorem of_sp {s d i r : List UInt8} {n : Nat} (h : Sp s d i r n) (hr : r.length ≤ 1048576) : wrong s n d i = 0 ∧ does s n d i = r := by
  obtain ⟨A, Z, rfl, rfl, rfl⟩ := h
  constructor
  · unfold wrong
    simp at hr
    rw [if_neg, if_neg]
    · simp; omega
    · simp [pre]; omega
  · simp [does, ← List.drop_drop]
theorem cut_left {A A' X Y : List UInt8} (h : A ++ X = A' ++ Y) (hl : A.length ≤ A'.length) : ∃ P, A' = A ++ P ∧ X = P ++ Y := by
  rcases List.append_eq_append_iff.1 h with ⟨P, h1, h2⟩ | ⟨P, h1, h2⟩
  · exact ⟨P, h1, h2⟩
  · have : P = [] := List.eq_nil_of_length_eq_zero (by rw [h1] at hl; simp at hl; omega)
    subst this
    exact ⟨[], by simpa using h1.symm, by simpa using h2.symm⟩
theorem join_law {s t r d i d' i' : List UInt8} {n m : Nat} (h1 : Sp s d i t n) (h2 : Sp t d' i' r m) :
    (join n d i m d' i' = none ↔ (n + i.length < m ∨ m + d'.length < n)) ∧ ∀ k x y, join n d i m d' i' = some (k, x, y) → Sp s x y r k ∧ k ≤ max n m ∧ x.length ≤ d.length + d'.length ∧ y.length ≤ i.length + i'.length := by
  obtain ⟨A, Z, rfl, rfl, rfl⟩ := h1
  obtain ⟨A', Z', he, rfl, rfl⟩ := h2
  unfold join
  by_cases c0 : A.length + i.length < A'.length ∨ A'.length + d'.length < A.length
  · simp [c0]
  rw [if_neg c0]
  refine ⟨⟨fun h => ?_, fun h => absurd h c0⟩, ?_⟩
  · repeat' split at h
    all_goals cases h
  simp only [not_or, Nat.not_lt] at c0
  intro k x y h
  by_cases c1 : A.length ≤ A'.length
  · obtain ⟨P, rfl, h3⟩ := cut_left he c1
    simp only [List.length_append] at c0 h
    by_cases c2 : A.length + P.length + d'.length ≤ A.length + i.length
    · rw [if_pos ⟨by omega, c2⟩] at h
      rw [← List.append_assoc] at h3
      obtain ⟨Q, h4, rfl⟩ := cut_left h3.symm (by simp; omega)
      subst h4
      simp at h
      obtain ⟨rfl, rfl, rfl⟩ := h
      have e : A.length + P.length - A.length = P.length := by omega
      simp only [e, List.length_append] at *
      refine ⟨⟨A, Z, rfl, rfl, ?_⟩, by omega, by omega, ?_⟩
      · simp
      · first | omega | (simp; omega)
    · rw [if_neg (fun h => c2 h.2), if_pos (by omega)] at h
      obtain ⟨R, rfl, h4⟩ := cut_left h3.symm (by omega)
      obtain ⟨S, rfl, rfl⟩ := cut_left h4.symm (by simp at c2; omega)
      simp only [List.length_append, Option.some.injEq, Prod.mk.injEq] at h
      obtain ⟨rfl, rfl, rfl⟩ := h
      have e : A.length + P.length - A.length = P.length := by omega
      have e2 : A.length + (P.length + R.length) - (A.length + P.length) = R.length := by omega
      simp only [e, e2]
      refine ⟨⟨A, Z', by simp, rfl, by simp⟩, by omega, ?_, ?_⟩ <;> simp <;> omega
  · obtain ⟨P, rfl, h3⟩ := cut_left he.symm (by omega)
    simp only [List.length_append] at c0 c1 h
    rw [if_neg (fun h => c1 h.1), if_neg c1] at h
    obtain ⟨Q, rfl, h4⟩ := cut_left h3.symm (by omega)
    by_cases c2 : A'.length + (P.length + Q.length) ≤ A'.length + P.length + i.length
    · simp only [List.length_append] at h
      rw [if_pos c2] at h
      obtain ⟨R, rfl, rfl⟩ := cut_left h4.symm (by omega)
      simp only [Option.some.injEq, Prod.mk.injEq] at h
      obtain ⟨rfl, rfl, rfl⟩ := h
      have e : A'.length + P.length - A'.length = P.length := by omega
      have e2 : A'.length + (P.length + Q.length) - (A'.length + P.length) = Q.length := by omega
      simp only [e, e2]
      refine ⟨⟨A', Z, by simp, rfl, by simp⟩, by omega, ?_, ?_⟩ <;> simp <;> omega
    · simp only [List.length_append] at h
      rw [if_neg c2] at h
      obtain ⟨S, rfl, rfl⟩ := cut_left h4 (by omega)
      simp only [Option.some.injEq, Prod.mk.injEq] at h
      obtain ⟨rfl, rfl, rfl⟩ := h
      have e : A'.length + P.length - A'.length = P.length := by omega
      have e2 : A'.length + P.length + i.length - A'.length = (P ++ i).length := by simp; omega
      simp only [e, e2, ← List.append_assoc]
      refine ⟨⟨A', Z', by simp, rfl, by simp⟩, by omega, ?_, by omega⟩
      simp
      omega
end Go.Proofs.Ytkinjjgaecbogaa
