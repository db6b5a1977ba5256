/-
  Plain laws of lines: newlines' places, the lines between them, and where a place stands.
-/
import Derived.Test.YtkinjjgaecbogaaLines3
namespace Go.Proofs.Ytkinjjgaecbogaa
theorem snoc_ind {α : Type} {P : List α → Prop} (h0 : P []) (h1 : ∀ l x, P l → P (l ++ [x])) (l : List α) : P l := by
  have : ∀ l : List α, P l.reverse := by
    intro l
    induction l with
    | nil => exact h0
    | cons x l ih => rw [List.reverse_cons]; exact h1 _ _ ih
  simpa using this l.reverse
theorem nls_bd (a : List UInt8) (f : Int) : ∀ e ∈ nls a f, f ≤ e ∧ e < f + a.length := by
  induction a generalizing f with
  | nil => simp [nls]
  | cons d r ih =>
    intro e he
    simp only [nls] at he
    have hl : ((d :: r).length : Int) = r.length + 1 := by simp
    split at he
    · rcases List.mem_cons.1 he with rfl | h
      · omega
      · have := ih (f + 1) e h; omega
    · have := ih (f + 1) e he; omega
theorem nls_up (a : List UInt8) (f : Int) : (nls a f).Pairwise (· < ·) := by
  induction a generalizing f with
  | nil => simp [nls]
  | cons d r ih =>
    simp only [nls]
    split
    · exact List.pairwise_cons.2 ⟨fun e he => by have := nls_bd r (f + 1) e he; omega, ih (f + 1)⟩
    · exact ih (f + 1)
theorem nls_append (a b : List UInt8) (f : Int) : nls (a ++ b) f = nls a f ++ nls b (f + a.length) := by
  induction a generalizing f with
  | nil => simp [nls]
  | cons d r ih =>
    have e : f + 1 + (r.length : Int) = f + ((d :: r).length : Int) := by simp; omega
    simp only [List.cons_append, nls]
    split <;> simp [ih, e]
/-- The place behind the last newline. -/
def tl (p : List UInt8) : Int := firstOf (nls p 0) (nls p 0).length
theorem firstOf_left (a b : List Int) (k : Nat) (hk : k ≤ a.length) : firstOf (a ++ b) k = firstOf a k := by
  cases k with
  | zero => rfl
  | succ k => simp only [firstOf]; rw [List.getElem?_append_left (by omega)]
theorem tl_snoc (p : List UInt8) (c : UInt8) : tl (p ++ [c]) = if c = 10 then (p.length : Int) + 1 else tl p := by
  unfold tl
  rw [nls_snoc]
  split
  · rw [List.length_append, List.length_singleton]
    simp [firstOf]
  · simp
theorem tl_bd (p : List UInt8) : 0 ≤ tl p ∧ tl p ≤ p.length := by
  induction p using snoc_ind with
  | h0 => simp [tl, nls, firstOf]
  | h1 l x ih =>
    rw [tl_snoc]
    simp only [List.length_append, List.length_singleton]
    split <;> omega
/-- Complete lines, and what stands behind the last newline. -/
def lns (p : List UInt8) : List (List UInt8) × List UInt8 := p.foldl (fun q c => if c = 10 then (q.1 ++ [q.2], []) else (q.1, q.2 ++ [c])) ([], [])
theorem lns_snoc (p : List UInt8) (c : UInt8) : lns (p ++ [c]) = if c = 10 then ((lns p).1 ++ [(lns p).2], []) else ((lns p).1, (lns p).2 ++ [c]) := by
  simp [lns, List.foldl_append]
structure LnsOk (p : List UInt8) : Prop where
  a : (lns p).1.length = (nls p 0).length
  b : (lns p).2 = p.drop (tl p).toNat
  d : ∀ j, j < (lns p).1.length → ∃ e, (nls p 0)[j]? = some e ∧ (lns p).1[j]? = some ((p.take e.toNat).drop (firstOf (nls p 0) j).toNat) ∧ firstOf (nls p 0) j ≤ e
theorem lns_ok (p : List UInt8) : LnsOk p := by
  induction p using snoc_ind with
  | h0 => exact ⟨rfl, rfl, fun j h => by simp [lns] at h⟩
  | h1 l x ih =>
    have ht := tl_bd l
    by_cases hx : x = 10
    · have e1 : lns (l ++ [x]) = ((lns l).1 ++ [(lns l).2], []) := by rw [lns_snoc, if_pos hx]
      have e2 : nls (l ++ [x]) 0 = nls l 0 ++ [(l.length : Int)] := by rw [nls_snoc, if_pos hx]; simp
      have e3 : tl (l ++ [x]) = l.length + 1 := by rw [tl_snoc, if_pos hx]
      refine ⟨by rw [e1, e2]; simp [ih.a], ?_, fun j hj => ?_⟩
      · rw [e1, e3]
        simp only
        rw [List.drop_of_length_le (by simp <;> omega)]
      · rw [e1] at hj ⊢
        rw [e2]
        simp only [List.length_append, List.length_singleton] at hj
        by_cases hjl : j < (lns l).1.length
        · obtain ⟨e, h1, h2, h3⟩ := ih.d j hjl
          have hb := nls_bd l 0 e (List.mem_of_getElem? h1)
          have hjn : j < (nls l 0).length := by rw [← ih.a]; exact hjl
          refine ⟨e, by rw [List.getElem?_append_left hjn]; exact h1, ?_, by rw [firstOf_left _ _ _ (by omega)]; exact h3⟩
          simp only
          rw [List.getElem?_append_left hjl, h2, firstOf_left _ _ _ (by omega), List.take_append_of_le_length (by omega)]
        · have hje : j = (lns l).1.length := by omega
          subst hje
          refine ⟨(l.length : Int), by rw [ih.a]; simp, ?_, ?_⟩
          · simp only
            rw [List.getElem?_append_right (by omega), ih.a, firstOf_left _ _ _ (by omega)]
            simp only [Nat.sub_self, List.getElem?_cons_zero, Int.toNat_natCast]
            rw [List.take_append_of_le_length (by omega), List.take_length, ih.b]; rfl
          · rw [ih.a, firstOf_left _ _ _ (by omega)]
            exact ht.2
    · have e1 : lns (l ++ [x]) = ((lns l).1, (lns l).2 ++ [x]) := by rw [lns_snoc, if_neg hx]
      have e2 : nls (l ++ [x]) 0 = nls l 0 := by rw [nls_snoc, if_neg hx]; simp
      have e3 : tl (l ++ [x]) = tl l := by rw [tl_snoc, if_neg hx]
      refine ⟨by rw [e1, e2]; exact ih.a, ?_, fun j hj => ?_⟩
      · rw [e1, e3]
        simp only
        rw [List.drop_append_of_le_length (by omega), ih.b]
      · rw [e1] at hj ⊢
        rw [e2]
        obtain ⟨e, h1, h2, h3⟩ := ih.d j hj
        have hb := nls_bd l 0 e (List.mem_of_getElem? h1)
        refine ⟨e, h1, ?_, h3⟩
        rw [h2, List.take_append_of_le_length (by omega)]
/-- A text's lines. -/
def linesOf (p : List UInt8) : List (List UInt8) := (lns p).1 ++ [(lns p).2]
theorem linesOf_len (p : List UInt8) : (linesOf p).length = (nls p 0).length + 1 := by simp [linesOf, (lns_ok p).a]
theorem linesOf_get (p : List UInt8) (k : Nat) (hk : k ≤ (nls p 0).length) : (linesOf p)[k]? = some ((p.take (lastOf (nls p 0) p.length k).toNat).drop (firstOf (nls p 0) k).toNat) ∧
    0 ≤ firstOf (nls p 0) k ∧ firstOf (nls p 0) k ≤ lastOf (nls p 0) p.length k ∧ lastOf (nls p 0) p.length k ≤ p.length := by
  have ok := lns_ok p
  have h0 : ∀ k, 0 ≤ firstOf (nls p 0) k := by
    intro k
    cases k with
    | zero => simp [firstOf]
    | succ k =>
      simp only [firstOf]
      cases he : (nls p 0)[k]? with
      | none => simp
      | some e => have := nls_bd p 0 e (List.mem_of_getElem? he); simp; omega
  by_cases hkl : k = (nls p 0).length
  · subst hkl
    have hl : lastOf (nls p 0) p.length (nls p 0).length = p.length := by simp [lastOf]
    rw [hl]
    refine ⟨?_, h0 _, (tl_bd p).2, Int.le_refl _⟩
    unfold linesOf
    rw [List.getElem?_append_right (by rw [ok.a]; omega), ok.a]
    simp only [Nat.sub_self, List.getElem?_cons_zero, Int.toNat_natCast, List.take_length, ok.b]
    rfl
  · obtain ⟨e, h1, h2, h3⟩ := ok.d k (by rw [ok.a]; omega)
    have hb := nls_bd p 0 e (List.mem_of_getElem? h1)
    have hl : lastOf (nls p 0) p.length k = e := by simp [lastOf, hkl, h1]
    rw [hl]
    refine ⟨?_, h0 _, h3, by omega⟩
    unfold linesOf
    rw [List.getElem?_append_left (by rw [ok.a]; omega), h2]
/-- A line's length. -/
theorem linesOf_lenOf (p : List UInt8) (k : Nat) (l : List UInt8) (h : (linesOf p)[k]? = some l) : (l.length : Int) = lastOf (nls p 0) p.length k - firstOf (nls p 0) k ∧ k ≤ (nls p 0).length := by
  have hk : k ≤ (nls p 0).length := by
    have := (List.getElem?_eq_some_iff.1 h).1
    rw [linesOf_len] at this; omega
  obtain ⟨h1, h2, h3, h4⟩ := linesOf_get p k hk
  rw [h1] at h
  cases h
  refine ⟨?_, hk⟩
  rw [List.length_drop, List.length_take]
  omega
theorem cntLt_take (s : List UInt8) (k : Nat) (hk : k ≤ s.length) : cntLt (nls s 0) k = (nls (s.take k) 0).length ∧ firstOf (nls s 0) (nls (s.take k) 0).length = tl (s.take k) := by
  have e : nls s 0 = nls (s.take k) 0 ++ nls (s.drop k) k := by
    have := nls_append (s.take k) (s.drop k) 0
    rw [List.take_append_drop, List.length_take, Nat.min_eq_left hk, Int.zero_add] at this
    exact this
  refine ⟨?_, ?_⟩
  · rw [e]
    refine cntLt_at _ _ _ (by simp) (fun j x hj hx => ?_) (fun j x hj hx => ?_)
    · rw [List.getElem?_append_left hj] at hx
      have := nls_bd _ 0 x (List.mem_of_getElem? hx)
      rw [List.length_take] at this
      omega
    · rw [List.getElem?_append_right hj] at hx
      have := nls_bd _ _ x (List.mem_of_getElem? hx)
      omega
  · rw [e, firstOf_left _ _ _ (by omega)]; rfl
end Go.Proofs.Ytkinjjgaecbogaa
