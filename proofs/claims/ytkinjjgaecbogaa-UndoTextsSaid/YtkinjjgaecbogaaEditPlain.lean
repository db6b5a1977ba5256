/-
  Plain laws on lists: how many elements two lists have alike at their beginnings and at their ends. No program in sight.
-/
namespace Go.Proofs.Ytkinjjgaecbogaa
/-- How many elements two lists have alike at their beginnings. -/
def cp : List UInt8 → List UInt8 → Nat
  | x :: a, y :: b => if x = y then cp a b + 1 else 0
  | _, _ => 0
theorem cp_le : ∀ (a b : List UInt8), cp a b ≤ a.length ∧ cp a b ≤ b.length
  | [], _ => by simp [cp]
  | _ :: _, [] => by simp [cp]
  | x :: a, y :: b => by
    have := cp_le a b
    simp only [cp, List.length_cons]
    split <;> omega
theorem cp_take : ∀ (a b : List UInt8), a.take (cp a b) = b.take (cp a b)
  | [], _ => by simp [cp]
  | _ :: _, [] => by simp [cp]
  | x :: a, y :: b => by
    have := cp_take a b
    simp only [cp]
    split
    · rename_i h; subst h; simpa using this
    · simp
/-- After k rounds of a loop that counts: all alike as far as k. -/
theorem cp_step (a b : List UInt8) (k : Nat) (h1 : k < a.length) (h2 : k < b.length) (h : k ≤ cp a b) :
    (a[k] = b[k] → k + 1 ≤ cp a b) ∧ (¬ a[k] = b[k] → cp a b = k) := by
  induction a generalizing b k with
  | nil => simp at h1
  | cons x a ih =>
    cases b with
    | nil => simp at h2
    | cons y b =>
      simp only [cp] at h ⊢
      cases k with
      | zero =>
        simp only [List.getElem_cons_zero]
        constructor
        · intro e; simp [e]
        · intro e; simp [e]
      | succ k =>
        split at h
        · rename_i e
          simp only [List.getElem_cons_succ, e, if_true]
          have := ih b k (by simpa using h1) (by simpa using h2) (by omega)
          exact ⟨fun q => by have := this.1 q; omega, fun q => by have := this.2 q; omega⟩
        · omega
theorem cp_full (a b : List UInt8) (k : Nat) (h : k ≤ cp a b) (h' : a.length ≤ k ∨ b.length ≤ k) : cp a b = k := by
  have := cp_le a b; omega
/-- At the ends. -/
def cs (a b : List UInt8) : Nat := cp a.reverse b.reverse
theorem cs_le (a b : List UInt8) : cs a b ≤ a.length ∧ cs a b ≤ b.length := by
  have := cp_le a.reverse b.reverse; simpa [cs] using this
theorem cs_step (a b : List UInt8) (k : Nat) (h1 : k < a.length) (h2 : k < b.length) (h : k ≤ cs a b) :
    (a[a.length - 1 - k] = b[b.length - 1 - k] → k + 1 ≤ cs a b) ∧ (¬ a[a.length - 1 - k] = b[b.length - 1 - k] → cs a b = k) := by
  have := cp_step a.reverse b.reverse k (by simpa using h1) (by simpa using h2) h
  simpa [List.getElem_reverse, cs] using this
theorem cs_full (a b : List UInt8) (k : Nat) (h : k ≤ cs a b) (h' : a.length ≤ k ∨ b.length ≤ k) : cs a b = k := by
  have := cs_le a b; omega
theorem cs_snoc (p q : List UInt8) (c d : UInt8) : cs (p ++ [c]) (q ++ [d]) = if c = d then cs p q + 1 else 0 := by
  simp [cs, cp]
theorem cs_nil_left (q : List UInt8) : cs [] q = 0 := by simp [cs, cp]
theorem cs_nil_right (q : List UInt8) : cs q [] = 0 := by
  unfold cs; cases q.reverse <;> simp [cp]
theorem cs_more (p q s : List UInt8) : cs (p ++ s) (q ++ s) = s.length + cs p q := by
  rcases List.eq_nil_or_concat s with rfl | ⟨t, c, rfl⟩
  · simp
  · have := cs_more p q t
    rw [List.concat_eq_append, ← List.append_assoc, ← List.append_assoc, cs_snoc, if_pos rfl, this]
    simp; omega
termination_by s.length
decreasing_by simp_all
theorem cs_drop (a b : List UInt8) : a.drop (a.length - cs a b) = b.drop (b.length - cs a b) := by
  have := congrArg List.reverse (cp_take a.reverse b.reverse)
  simpa [List.reverse_take, cs] using this
end Go.Proofs.Ytkinjjgaecbogaa
