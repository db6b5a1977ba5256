/-
  Plain laws of the law FieldsJoin: texts joined by one byte that is in none of them, and parted again.
-/
import Derived.Test.YtkinjjgaecbogaaFieldsPlain
import Derived.Lib.Join
namespace Go.Proofs.Ytkinjjgaecbogaa
def fdOf (t : List UInt8) : Fd := ⟨t, t⟩
def stepJ (b : UInt8) (m : Mk) (x : UInt8) : Mk := stepM [b] m (byteU ⟨true, false, []⟩ x)
theorem fold_text (b : UInt8) : ∀ (t : List UInt8) (m : Mk), t ≠ [] → t.contains b = false → t.foldl (stepJ b) m = ⟨m.l, m.text ++ t, m.pat ++ t, true, false⟩
  | [], _, h, _ => absurd rfl h
  | x :: t, m, _, hb => by
    simp only [List.contains_cons, Bool.or_eq_false_iff] at hb
    have h1 : stepJ b m x = ⟨m.l, m.text ++ [x], m.pat ++ [x], true, false⟩ := by
      have : ([b].contains x) = false := by
        simp only [List.contains_cons, List.contains_nil, Bool.or_false]
        have h := hb.1
        rw [beq_eq_false_iff_ne] at h ⊢
        exact fun e => h e.symm
      unfold stepJ stepM
      rw [if_pos (by simp only [byteU, this]; rfl)]
      simp [addM, byteU]
    rw [List.foldl_cons, h1]
    cases t with
    | nil => simp
    | cons y t =>
      rw [fold_text b (y :: t) _ (by simp) hb.2]
      simp
theorem step_sep (b : UInt8) (m : Mk) (h : m.begun = true) : stepJ b m b = ⟨m.l ++ [⟨m.text, m.pat⟩], [], [], false, whiteB b⟩ := by
  unfold stepJ stepM
  rw [if_neg (by simp [byteU])]
  unfold sepM
  rw [if_pos h]
  rfl
theorem fold_join (b : UInt8) : ∀ (r : List (List UInt8)) (x : List UInt8) (m : Mk), (∀ t ∈ x :: r, t ≠ [] ∧ t.contains b = false) → m.text = [] → m.pat = [] →
    outM ((x ++ Lib.joinTail [b] r).foldl (stepJ b) m) = m.l ++ (x :: r).map fdOf
  | [], x, m, h, ht, hp => by
    have hx := h x (by simp)
    simp only [Lib.joinTail, List.map_nil, List.flatten_nil, List.append_nil]
    rw [fold_text b x m hx.1 hx.2, ht, hp]
    simp [outM, endM, fdOf]
  | y :: r, x, m, h, ht, hp => by
    have hx := h x (by simp)
    have e : x ++ Lib.joinTail [b] (y :: r) = x ++ (b :: (y ++ Lib.joinTail [b] r)) := by simp [Lib.joinTail]
    rw [e, List.foldl_append, fold_text b x m hx.1 hx.2, List.foldl_cons, step_sep _ _ rfl, fold_join b r y _ (fun t ht => h t (by simp at ht ⊢; exact .inr ht)) rfl rfl, ht, hp]
    simp [fdOf]
theorem join_parts (b : UInt8) (ts : List (List UInt8)) (h : ∀ t ∈ ts, t ≠ [] ∧ t.contains b = false) : splitF [⟨true, false, Lib.join ts [b]⟩] [b] = ts.map fdOf := by
  have hf : foldM [b] (unitsOf [⟨true, false, Lib.join ts [b]⟩]) = (Lib.join ts [b]).foldl (stepJ b) mk0 := by
    simp only [foldM, unitsOf, List.flatMap_cons, List.flatMap_nil, List.append_nil, unitsP, headU]
    simp only [Bool.false_eq_true, and_false, if_false, List.nil_append, List.foldl_map]
    rfl
  unfold splitF
  rw [hf]
  cases ts with
  | nil => rw [Lib.join_nil]; rfl
  | cons x r =>
    rw [Lib.join_cons, fold_join b r x mk0 h rfl rfl]
    rfl
theorem join_snoc (b : UInt8) (ts : List (List UInt8)) (x : List UInt8) : Lib.join (ts ++ [x]) [b] = if ts = [] then x else (Lib.join ts [b] ++ [b]) ++ x := by
  cases ts with
  | nil => simp [Lib.join_one]
  | cons y r =>
    rw [if_neg (by simp), List.cons_append, Lib.join_cons, Lib.join_cons]
    simp [Lib.joinTail, List.append_assoc]
theorem join_len_le (b : UInt8) (ts : List (List UInt8)) (n : Nat) (h : ∀ t ∈ ts, t.length ≤ n) : (Lib.join ts [b]).length ≤ (n + 1) * ts.length := by
  cases ts with
  | nil => simp [Lib.join_nil]
  | cons x r =>
    rw [Lib.join_cons, List.length_append]
    have hx := h x (by simp)
    have : ∀ r : List (List UInt8), (∀ t ∈ r, t.length ≤ n) → (Lib.joinTail [b] r).length ≤ (n + 1) * r.length := by
      intro r
      induction r with
      | nil => simp [Lib.joinTail]
      | cons y r ih =>
        intro h
        have h1 := h y (by simp)
        have h2 := ih (fun t ht => h t (by simp [ht]))
        simp only [Lib.joinTail, List.map_cons, List.flatten_cons, List.length_append, List.length_cons, List.length_nil] at h2 ⊢
        rw [Nat.mul_add]
        omega
    have := this r (fun t ht => h t (by simp [ht]))
    rw [List.length_cons, Nat.mul_add]
    omega
end Go.Proofs.Ytkinjjgaecbogaa
