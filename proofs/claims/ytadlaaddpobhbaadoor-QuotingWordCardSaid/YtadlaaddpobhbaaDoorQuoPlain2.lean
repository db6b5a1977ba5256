/-
  Forms of texts (layer 17), plainly, on: without quotes, in any state, the shortest. No program in sight.
-/
import Derived.Test.YtadlaaddpobhbaaDoorQuo1
import Derived.Test.YtadlaaddpobhbaaDoorQuoPlain
namespace Go.Proofs.YtadlaaddpobhbaaDoor.Quo
open Cls
/-- A byte's form where nothing is quoted. -/
def escB (b : UInt8) : List UInt8 := if b = 10 then [39, 10, 39] else if safeB b = true then [b] else [92, b]
/-- A text of safe bytes that could be taken for something else. -/
def riskB (s : List UInt8) : Bool := resB s || (s != [] && s.all digitB)
def headL (s : List UInt8) : List UInt8 := if (riskB s && safeB (s.getD 0 0)) = true then [92] else []
def plnL (s : List UInt8) : List UInt8 := if s = [] then [39, 39] else headL s ++ s.flatMap escB
def endL (closed : Bool) (e : UInt8) : List UInt8 := if closed = true then [e] else []
/-- A text's form in a state. -/
def encL (s : List UInt8) (state : Int) (closed : Bool) : List UInt8 :=
  if state = 4 then sglL s ++ endL closed 39 else if state = 5 then dblL s ++ endL closed 34 else plnL s
def shorter (a b : List UInt8) : List UInt8 := if b.length < a.length then b else a
def shortL (s : List UInt8) : List UInt8 := shorter (shorter (encL s 0 true) (encL s 4 true)) (encL s 5 true)
/-- The first k bytes' form. -/
def plnK (s : List UInt8) (k : Nat) : List UInt8 := if k = 0 then [] else headL s ++ (s.take k).flatMap escB
theorem plnK_all {s : List UInt8} (h : s ≠ []) : plnK s s.length = plnL s := by
  unfold plnK plnL
  rw [if_neg (by simpa using h), if_neg h, List.take_length]
theorem plnK_step {s : List UInt8} {k : Nat} (h : k < s.length) : plnK s (k + 1) = plnK s k ++ ((if k = 0 then headL s else []) ++ escB s[k]) := by
  unfold plnK
  rw [if_neg (by omega), List.take_succ_eq_append_getElem h, List.flatMap_append]
  by_cases hk : k = 0
  · subst hk; simp
  · rw [if_neg hk, if_neg hk]; simp
theorem is10 {c : UInt8} : ((c.toNat : Int) == 10) = (c == 10) := by
  rw [Bool.eq_iff_iff, beq_iff_eq, beq_iff_eq]
  constructor
  · intro h; exact UInt8.toNat_inj.1 (by simpa using (show c.toNat = 10 by omega))
  · rintro rfl; rfl
theorem head_no {s : List UInt8} {k : Nat} (h : k < s.length) (hs : safeB s[k] = false) : (if k = 0 then headL s else []) = [] := by
  by_cases hk : k = 0
  · subst hk
    rw [if_pos rfl]
    unfold headL
    rw [if_neg]
    rw [show s.getD 0 0 = s[0] by simp [List.getD, List.getElem?_eq_getElem h], hs]
    simp
  · rw [if_neg hk]
theorem plnK_A {s : List UInt8} {k : Nat} (h : k < s.length) (h10 : ((s[k].toNat : Int) == 10) = true) : plnK s (k + 1) = plnK s k ++ [39, 10, 39] := by
  rw [is10, beq_iff_eq] at h10
  rw [plnK_step h, head_no h (by rw [h10]; decide +kernel)]
  unfold escB
  rw [if_pos h10]
  rfl
theorem plnK_B {s : List UInt8} {k : Nat} (h : k < s.length) (h10 : ((s[k].toNat : Int) == 10) = false) (hs : safeB s[k] = false) : plnK s (k + 1) = (plnK s k ++ [92]) ++ [s[k]] := by
  rw [is10, beq_eq_false_iff_ne] at h10
  rw [plnK_step h, head_no h hs]
  unfold escB
  rw [if_neg h10, if_neg (by rw [hs]; simp)]
  simp
theorem plnK_C {s : List UInt8} {k : Nat} (h : k < s.length) (h10 : ((s[k].toNat : Int) == 10) = false) (hs : safeB s[k] = true) (hk : k = 0) (hr : riskB s = true) : plnK s (k + 1) = (plnK s k ++ [92]) ++ [s[k]] := by
  rw [is10, beq_eq_false_iff_ne] at h10
  rw [plnK_step h]
  unfold escB headL
  subst hk
  rw [if_neg h10, if_pos hs, if_pos rfl, if_pos (by rw [show s.getD 0 0 = s[0] by simp [List.getD, List.getElem?_eq_getElem h], hs, hr]; rfl)]
  simp
theorem plnK_D {s : List UInt8} {k : Nat} (h : k < s.length) (h10 : ((s[k].toNat : Int) == 10) = false) (hs : safeB s[k] = true) (hr : k = 0 → riskB s = false) : plnK s (k + 1) = plnK s k ++ [s[k]] := by
  rw [is10, beq_eq_false_iff_ne] at h10
  rw [plnK_step h]
  unfold escB headL
  rw [if_neg h10, if_pos hs]
  by_cases hk : k = 0
  · rw [if_pos hk, if_neg (by rw [hr hk]; simp)]
    rfl
  · rw [if_neg hk]
    rfl
theorem escB_ne (b : UInt8) : escB b ≠ [] := by
  unfold escB
  repeat' split
  all_goals simp
theorem plnL_ne (s : List UInt8) : plnL s ≠ [] := by
  unfold plnL
  split
  · simp
  · cases s with
    | nil => contradiction
    | cons b l =>
      rw [List.flatMap_cons]
      have := escB_ne b
      intro h
      have h2 := congrArg List.length h
      simp at h2
      exact this (by simpa using h2.2.1)
theorem encL_ne (s : List UInt8) (state : Int) (closed : Bool) : encL s state closed ≠ [] := by
  unfold encL
  split
  · unfold sglL; simp
  · split
    · unfold dblL; simp
    · exact plnL_ne s
theorem shorter_ne {a b : List UInt8} (ha : a ≠ []) (hb : b ≠ []) : shorter a b ≠ [] := by
  unfold shorter
  split <;> assumption
/-- The shortest of the first k forms. -/
def shortK (s : List UInt8) : Nat → List UInt8
  | 0 => []
  | 1 => encL s 0 true
  | 2 => shorter (encL s 0 true) (encL s 4 true)
  | _ => shortL s
theorem escB_len (b : UInt8) : (escB b).length ≤ 3 := by
  unfold escB
  repeat' split
  all_goals simp
theorem headL_len (s : List UInt8) : (headL s).length ≤ 1 := by
  unfold headL
  split <;> simp
theorem flat_len {f : UInt8 → List UInt8} {m : Nat} (h : ∀ b, (f b).length ≤ m) : ∀ s : List UInt8, (s.flatMap f).length ≤ m * s.length
  | [] => by simp
  | b :: l => by
    have := flat_len h l
    have := h b
    rw [List.flatMap_cons, List.length_append, List.length_cons, Nat.mul_add]
    omega
theorem plnK_len (s : List UInt8) (k : Nat) (hk : k ≤ s.length) : (plnK s k).length ≤ 3 * s.length + 1 := by
  unfold plnK
  split
  · simp
  · have h1 := flat_len escB_len (s.take k)
    have h2 := headL_len s
    rw [List.length_append]
    rw [List.length_take] at h1
    have : 3 * (min k s.length) ≤ 3 * s.length := Nat.mul_le_mul_left 3 (by omega)
    omega
def dblE (b : UInt8) : List UInt8 := if dblB b = true then [92, b] else [b]
def dblI (n : Int) : Bool := n == 36 || n == 96 || n == 34 || n == 92
theorem dblI_eq (c : UInt8) : dblB c = dblI c.toNat := by
  have h : ∀ n : Fin 256, dblB (UInt8.ofNat n.val) = dblI (UInt8.ofNat n.val).toNat := by decide +kernel
  have := h ⟨c.toNat, c.toNat_lt⟩
  simpa using this
theorem dblE_yes {c : UInt8} (h : dblI c.toNat = true) : dblE c = [92] ++ [c] := by unfold dblE; rw [dblI_eq, if_pos h]; rfl
theorem dblE_no {c : UInt8} (h : dblI c.toNat = false) : dblE c = [c] := by unfold dblE; rw [dblI_eq, if_neg (by rw [h]; simp)]
theorem dblE_len (b : UInt8) : (dblE b).length ≤ 2 := by unfold dblE; split <;> simp
def dblK (s : List UInt8) (k : Nat) : List UInt8 := 34 :: (s.take k).flatMap dblE
theorem dblK_all (s : List UInt8) : dblK s s.length = dblL s := by unfold dblK dblL; rw [List.take_length]; rfl
theorem dblK_step {s : List UInt8} {k : Nat} (h : k < s.length) : dblK s (k + 1) = dblK s k ++ dblE s[k] := by
  unfold dblK
  rw [List.take_succ_eq_append_getElem h, List.flatMap_append]
  simp
theorem dblK_len (s : List UInt8) (k : Nat) (hk : k ≤ s.length) : (dblK s k).length ≤ 2 * s.length + 1 := by
  unfold dblK
  have h1 := flat_len dblE_len (s.take k)
  rw [List.length_take] at h1
  have : 2 * (min k s.length) ≤ 2 * s.length := Nat.mul_le_mul_left 2 (by omega)
  rw [List.length_cons]
  omega
def sglE (b : UInt8) : List UInt8 := if b = 39 then [39, 92, 39, 39] else [b]
def sglK (s : List UInt8) (k : Nat) : List UInt8 := 39 :: (s.take k).flatMap sglE
theorem sglK_all (s : List UInt8) : sglK s s.length = sglL s := by unfold sglK sglL; rw [List.take_length]; rfl
theorem sglK_step {s : List UInt8} {k : Nat} (h : k < s.length) : sglK s (k + 1) = sglK s k ++ sglE s[k] := by
  unfold sglK
  rw [List.take_succ_eq_append_getElem h, List.flatMap_append]
  simp
theorem sglE_len (b : UInt8) : (sglE b).length ≤ 4 := by unfold sglE; split <;> simp
theorem sglL_len (s : List UInt8) : (sglL s).length ≤ 4 * s.length + 1 := by
  have h1 := flat_len sglE_len s
  have h2 : sglL s = 39 :: s.flatMap sglE := rfl
  rw [h2, List.length_cons]
  omega
theorem dblL_len (s : List UInt8) : (dblL s).length ≤ 2 * s.length + 1 := by
  have := dblK_len s s.length (Nat.le_refl _)
  rwa [dblK_all] at this
theorem plnL_len (s : List UInt8) : (plnL s).length ≤ 3 * s.length + 2 := by
  by_cases h : s = []
  · subst h; decide
  · have := plnK_len s s.length (Nat.le_refl _)
    rw [plnK_all h] at this
    omega
theorem encL_len (s : List UInt8) (state : Int) (closed : Bool) : (encL s state closed).length ≤ 4 * s.length + 2 := by
  have h1 := sglL_len s
  have h2 := dblL_len s
  have h3 := plnL_len s
  have h4 : ∀ e, (endL closed e).length ≤ 1 := by intro e; unfold endL; split <;> simp
  have h5 := h4 39
  have h6 := h4 34
  unfold encL
  split
  · rw [List.length_append]; omega
  · split
    · rw [List.length_append]; omega
    · by_cases h : s = []
      · subst h; decide
      · have : 0 < s.length := List.length_pos_iff.2 h
        by_cases h2 : s.length = 1
        · have := plnK_len s s.length (Nat.le_refl _)
          rw [plnK_all h] at this
          omega
        · omega
end Go.Proofs.YtadlaaddpobhbaaDoor.Quo
