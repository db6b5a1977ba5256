/-
  The walks of layer 17 (quoting): forms. Conditions: texts of at most 2^30 bytes.
-/
import Derived.Lib.Replace
import Derived.Lib.IndexBytes
import Derived.Lib.IndexLaws
import Derived.Test.YtljinmfkogmmlaaQuo1
import Derived.Test.YtljinmfkogmmlaaBld
import Derived.Test.YtljinmfkogmmlaaMaxL
import Derived.Lib.SplitLaws
/-
  Forms of texts (layer 17), plainly. No program in sight.
-/
namespace Go.Proofs.Ytljinmfkogmmlaa.Quo
open Go.Lib
theorem replaceK_one (c : UInt8) (new : List UInt8) : ∀ s : List UInt8, replaceK [c] new (s.count c) s = s.flatMap fun b => if b = c then new else [b]
  | [] => rfl
  | b :: l => by
    have ih := replaceK_one c new l
    rw [List.flatMap_cons]
    by_cases h : b = c
    · subst h
      rw [List.count_cons_self, replaceK_hit [b] new _ _ 0 (by rw [index_one]; simp [indexByte])]
      simp [ih]
    · rw [List.count_cons_of_ne h, if_neg h]
      cases hk : l.count c with
      | zero =>
        rw [hk] at ih
        rw [← ih]
        rfl
      | succ k =>
        obtain ⟨i, hi⟩ := index_of_count (s := l) (old := [c]) (by rw [count_one, hk]; omega)
        have hi2 : index (b :: l) [c] = ((i + 1 : Nat) : Int) := by
          rw [index_one] at hi ⊢
          unfold indexByte
          rw [if_neg (by simpa using h), if_neg (by rw [hi]; simp), hi]
          omega
        rw [hk, replaceK_hit [c] new k l i hi] at ih
        rw [replaceK_hit [c] new k (b :: l) (i + 1) hi2]
        simp only [List.take_succ_cons, List.length_cons, List.length_nil] at ih ⊢
        rw [show i + 1 + (0 + 1) = (i + (0 + 1)) + 1 by omega, List.drop_succ_cons, List.cons_append, List.cons_append, ih]
        rfl
theorem replaceAll_one (c : UInt8) (new s : List UInt8) (h : [c] ≠ new) : replaceAll s [c] new = s.flatMap fun b => if b = c then new else [b] := by
  unfold replaceAll replace replaceNum
  rw [if_neg (by simpa using h), if_pos (.inl (by omega)), count_one]
  exact replaceK_one c new s
/-- A text's form between single quotes, its end left out; between double ones. -/
def sglL (s : List UInt8) : List UInt8 := 39 :: s.flatMap fun b => if b = 39 then [39, 92, 39, 39] else [b]
def dblB (b : UInt8) : Bool := b == 36 || b == 96 || b == 34 || b == 92
def dblL (s : List UInt8) : List UInt8 := 34 :: s.flatMap fun b => if dblB b = true then [92, b] else [b]
end Go.Proofs.Ytljinmfkogmmlaa.Quo
/-
  Forms of texts (layer 17), plainly, on: without quotes, in any state, the shortest. No program in sight.
-/
namespace Go.Proofs.Ytljinmfkogmmlaa.Quo
open Cls
/-- A byte's form where nothing is quoted. -/
def escB (b : UInt8) : List UInt8 := if b = 10 then [39, 10, 39] else if safeB b = true then [b] else [92, b]
/-- A text of safe bytes that could be taken for something else. -/
def riskB (s : List UInt8) : Bool := resB s || (s != [] && s.all digitB)
def headL (s : List UInt8) : List UInt8 := if (riskB s && safeB (s.getD 0 0)) = true then [92] else []
def plnL (s : List UInt8) : List UInt8 := if s = [] then [39, 39] else headL s ++ s.flatMap escB
def endL (closed : Bool) (e : UInt8) : List UInt8 := if closed = true then [e] else []
/-- A text's form in a state. -/
def encL (s : List UInt8) (state : Int) (closed : Bool) : List UInt8 :=
  if state = 4 then sglL s ++ endL closed 39 else if state = 5 then dblL s ++ endL closed 34 else plnL s
def shorter (a b : List UInt8) : List UInt8 := if b.length < a.length then b else a
def shortL (s : List UInt8) : List UInt8 := shorter (shorter (encL s 0 true) (encL s 4 true)) (encL s 5 true)
/-- The first k bytes' form. -/
def plnK (s : List UInt8) (k : Nat) : List UInt8 := if k = 0 then [] else headL s ++ (s.take k).flatMap escB
theorem plnK_all {s : List UInt8} (h : s ≠ []) : plnK s s.length = plnL s := by
  unfold plnK plnL
  rw [if_neg (by simpa using h), if_neg h, List.take_length]
theorem plnK_step {s : List UInt8} {k : Nat} (h : k < s.length) : plnK s (k + 1) = plnK s k ++ ((if k = 0 then headL s else []) ++ escB s[k]) := by
  unfold plnK
  rw [if_neg (by omega), List.take_succ_eq_append_getElem h, List.flatMap_append]
  by_cases hk : k = 0
  · subst hk; simp
  · rw [if_neg hk, if_neg hk]; simp
theorem is10 {c : UInt8} : ((c.toNat : Int) == 10) = (c == 10) := by
  rw [Bool.eq_iff_iff, beq_iff_eq, beq_iff_eq]
  constructor
  · intro h; exact UInt8.toNat_inj.1 (by simpa using (show c.toNat = 10 by omega))
  · rintro rfl; rfl
theorem head_no {s : List UInt8} {k : Nat} (h : k < s.length) (hs : safeB s[k] = false) : (if k = 0 then headL s else []) = [] := by
  by_cases hk : k = 0
  · subst hk
    rw [if_pos rfl]
    unfold headL
    rw [if_neg]
    rw [show s.getD 0 0 = s[0] by simp [List.getD, List.getElem?_eq_getElem h], hs]
    simp
  · rw [if_neg hk]
theorem plnK_A {s : List UInt8} {k : Nat} (h : k < s.length) (h10 : ((s[k].toNat : Int) == 10) = true) : plnK s (k + 1) = plnK s k ++ [39, 10, 39] := by
  rw [is10, beq_iff_eq] at h10
  rw [plnK_step h, head_no h (by rw [h10]; decide +kernel)]
  unfold escB
  rw [if_pos h10]
  rfl
theorem plnK_B {s : List UInt8} {k : Nat} (h : k < s.length) (h10 : ((s[k].toNat : Int) == 10) = false) (hs : safeB s[k] = false) : plnK s (k + 1) = (plnK s k ++ [92]) ++ [s[k]] := by
  rw [is10, beq_eq_false_iff_ne] at h10
  rw [plnK_step h, head_no h hs]
  unfold escB
  rw [if_neg h10, if_neg (by rw [hs]; simp)]
  simp
theorem plnK_C {s : List UInt8} {k : Nat} (h : k < s.length) (h10 : ((s[k].toNat : Int) == 10) = false) (hs : safeB s[k] = true) (hk : k = 0) (hr : riskB s = true) : plnK s (k + 1) = (plnK s k ++ [92]) ++ [s[k]] := by
  rw [is10, beq_eq_false_iff_ne] at h10
  rw [plnK_step h]
  unfold escB headL
  subst hk
  rw [if_neg h10, if_pos hs, if_pos rfl, if_pos (by rw [show s.getD 0 0 = s[0] by simp [List.getD, List.getElem?_eq_getElem h], hs, hr]; rfl)]
  simp
theorem plnK_D {s : List UInt8} {k : Nat} (h : k < s.length) (h10 : ((s[k].toNat : Int) == 10) = false) (hs : safeB s[k] = true) (hr : k = 0 → riskB s = false) : plnK s (k + 1) = plnK s k ++ [s[k]] := by
  rw [is10, beq_eq_false_iff_ne] at h10
  rw [plnK_step h]
  unfold escB headL
  rw [if_neg h10, if_pos hs]
  by_cases hk : k = 0
  · rw [if_pos hk, if_neg (by rw [hr hk]; simp)]
    rfl
  · rw [if_neg hk]
    rfl
theorem escB_ne (b : UInt8) : escB b ≠ [] := by
  unfold escB
  repeat' split
  all_goals simp
theorem plnL_ne (s : List UInt8) : plnL s ≠ [] := by
  unfold plnL
  split
  · simp
  · cases s with
    | nil => contradiction
    | cons b l =>
      rw [List.flatMap_cons]
      have := escB_ne b
      intro h
      have h2 := congrArg List.length h
      simp at h2
      exact this (by simpa using h2.2.1)
theorem encL_ne (s : List UInt8) (state : Int) (closed : Bool) : encL s state closed ≠ [] := by
  unfold encL
  split
  · unfold sglL; simp
  · split
    · unfold dblL; simp
    · exact plnL_ne s
theorem shorter_ne {a b : List UInt8} (ha : a ≠ []) (hb : b ≠ []) : shorter a b ≠ [] := by
  unfold shorter
  split <;> assumption
/-- The shortest of the first k forms. -/
def shortK (s : List UInt8) : Nat → List UInt8
  | 0 => []
  | 1 => encL s 0 true
  | 2 => shorter (encL s 0 true) (encL s 4 true)
  | _ => shortL s
theorem escB_len (b : UInt8) : (escB b).length ≤ 3 := by
  unfold escB
  repeat' split
  all_goals simp
theorem headL_len (s : List UInt8) : (headL s).length ≤ 1 := by
  unfold headL
  split <;> simp
theorem flat_len {f : UInt8 → List UInt8} {m : Nat} (h : ∀ b, (f b).length ≤ m) : ∀ s : List UInt8, (s.flatMap f).length ≤ m * s.length
  | [] => by simp
  | b :: l => by
    have := flat_len h l
    have := h b
    rw [List.flatMap_cons, List.length_append, List.length_cons, Nat.mul_add]
    omega
theorem plnK_len (s : List UInt8) (k : Nat) (hk : k ≤ s.length) : (plnK s k).length ≤ 3 * s.length + 1 := by
  unfold plnK
  split
  · simp
  · have h1 := flat_len escB_len (s.take k)
    have h2 := headL_len s
    rw [List.length_append]
    rw [List.length_take] at h1
    have : 3 * (min k s.length) ≤ 3 * s.length := Nat.mul_le_mul_left 3 (by omega)
    omega
def dblE (b : UInt8) : List UInt8 := if dblB b = true then [92, b] else [b]
def dblI (n : Int) : Bool := n == 36 || n == 96 || n == 34 || n == 92
theorem dblI_eq (c : UInt8) : dblB c = dblI c.toNat := by
  have h : ∀ n : Fin 256, dblB (UInt8.ofNat n.val) = dblI (UInt8.ofNat n.val).toNat := by decide +kernel
  have := h ⟨c.toNat, c.toNat_lt⟩
  simpa using this
theorem dblE_yes {c : UInt8} (h : dblI c.toNat = true) : dblE c = [92] ++ [c] := by unfold dblE; rw [dblI_eq, if_pos h]; rfl
theorem dblE_no {c : UInt8} (h : dblI c.toNat = false) : dblE c = [c] := by unfold dblE; rw [dblI_eq, if_neg (by rw [h]; simp)]
theorem dblE_len (b : UInt8) : (dblE b).length ≤ 2 := by unfold dblE; split <;> simp
def dblK (s : List UInt8) (k : Nat) : List UInt8 := 34 :: (s.take k).flatMap dblE
theorem dblK_all (s : List UInt8) : dblK s s.length = dblL s := by unfold dblK dblL; rw [List.take_length]; rfl
theorem dblK_step {s : List UInt8} {k : Nat} (h : k < s.length) : dblK s (k + 1) = dblK s k ++ dblE s[k] := by
  unfold dblK
  rw [List.take_succ_eq_append_getElem h, List.flatMap_append]
  simp
theorem dblK_len (s : List UInt8) (k : Nat) (hk : k ≤ s.length) : (dblK s k).length ≤ 2 * s.length + 1 := by
  unfold dblK
  have h1 := flat_len dblE_len (s.take k)
  rw [List.length_take] at h1
  have : 2 * (min k s.length) ≤ 2 * s.length := Nat.mul_le_mul_left 2 (by omega)
  rw [List.length_cons]
  omega
def sglE (b : UInt8) : List UInt8 := if b = 39 then [39, 92, 39, 39] else [b]
def sglK (s : List UInt8) (k : Nat) : List UInt8 := 39 :: (s.take k).flatMap sglE
theorem sglK_all (s : List UInt8) : sglK s s.length = sglL s := by unfold sglK sglL; rw [List.take_length]; rfl
theorem sglK_step {s : List UInt8} {k : Nat} (h : k < s.length) : sglK s (k + 1) = sglK s k ++ sglE s[k] := by
  unfold sglK
  rw [List.take_succ_eq_append_getElem h, List.flatMap_append]
  simp
theorem sglE_len (b : UInt8) : (sglE b).length ≤ 4 := by unfold sglE; split <;> simp
theorem sglL_len (s : List UInt8) : (sglL s).length ≤ 4 * s.length + 1 := by
  have h1 := flat_len sglE_len s
  have h2 : sglL s = 39 :: s.flatMap sglE := rfl
  rw [h2, List.length_cons]
  omega
theorem dblL_len (s : List UInt8) : (dblL s).length ≤ 2 * s.length + 1 := by
  have := dblK_len s s.length (Nat.le_refl _)
  rwa [dblK_all] at this
theorem plnL_len (s : List UInt8) : (plnL s).length ≤ 3 * s.length + 2 := by
  by_cases h : s = []
  · subst h; decide
  · have := plnK_len s s.length (Nat.le_refl _)
    rw [plnK_all h] at this
    omega
theorem encL_len (s : List UInt8) (state : Int) (closed : Bool) : (encL s state closed).length ≤ 4 * s.length + 2 := by
  have h1 := sglL_len s
  have h2 := dblL_len s
  have h3 := plnL_len s
  have h4 : ∀ e, (endL closed e).length ≤ 1 := by intro e; unfold endL; split <;> simp
  have h5 := h4 39
  have h6 := h4 34
  unfold encL
  split
  · rw [List.length_append]; omega
  · split
    · rw [List.length_append]; omega
    · by_cases h : s = []
      · subst h; decide
      · have : 0 < s.length := List.length_pos_iff.2 h
        by_cases h2 : s.length = 1
        · have := plnK_len s s.length (Nat.le_refl _)
          rw [plnK_all h] at this
          omega
        · omega
end Go.Proofs.Ytljinmfkogmmlaa.Quo
/-
  The walks of layer 17 (quoting), in part: what is risky, texts between double quotes. Conditions: texts of at most 2^30 bytes.
-/
namespace Go.Proofs.Ytljinmfkogmmlaa.Quo
open Go.ChangeShapes Go.WideShapes Go.Deep Go.RowKit Cls Bd Pat
set_option maxRecDepth 100000
end Go.Proofs.Ytljinmfkogmmlaa.Quo
/-
  The walks of layer 17 (quoting): the forms of a text, the shortest one. Conditions: texts of at most 2^30 bytes; the library's variable MaxLen holds some number.
-/
namespace Go.Proofs.Ytljinmfkogmmlaa.Quo
open Go.ChangeShapes Go.WideShapes Go.Deep Go.RowKit Cls Bd Pat
set_option maxRecDepth 100000
/-- What holds at each round of plain's loop. -/
def PlnI (s : List UInt8) (w : World) (i : Value) (wr : World) : Prop := ∃ (k : Nat) (v : Value), k ≤ s.length ∧ i = .int .i64 k ∧ Hid (Bld wr w.heap.size w.heap.size v (plnK s k)) ∧ Hid (Below w.heap.size w wr)
theorem PlnI.mk {s : List UInt8} {w wr : World} {i : Value} {v : Value} {l : List UInt8} (k : Nat) (h1 : k ≤ s.length) (h2 : i = .int .i64 k) (he : plnK s k = l) (h3 : Bld wr w.heap.size w.heap.size v l) (h4 : Below w.heap.size w wr) : PlnI s w i wr := ⟨k, v, h1, h2, by rw [he]; exact h3, h4⟩
theorem info_int : (Try.prog.info? 3).map (fun i => (i.zero, i.size, i.bytes)) = some (some (.int .i64 0), 1, 8) := by kernel_rfl
end Go.Proofs.Ytljinmfkogmmlaa.Quo
/-
  The walks of layer 17's reference: the forms of a text, the shortest one; and of its law's opening. Conditions: texts of at most 2^30 bytes.
-/
namespace Go.Proofs.Ytljinmfkogmmlaa.Quo
open Go.ChangeShapes Go.WideShapes Go.Deep Go.RowKit Cls Bd Pat
set_option maxRecDepth 100000
def allB (s : List UInt8) (k : Int) : Bool := s.all fun c => clsB c == k
theorem res_nil : resB [] = false := by decide +kernel
theorem res_blank {s : List UInt8} (h : s.contains 32 = true) : resB s = false := by
  cases hr : resB s with
  | false => rfl
  | true =>
    have hall : ∀ x ∈ resL, x.contains 32 = false := by decide +kernel
    have := hall s (List.contains_iff_mem.1 hr)
    rw [h] at this
    cases this
end Go.Proofs.Ytljinmfkogmmlaa.Quo
/-
  The walks of layer 17's reference, on: the forms of a text, the shortest one; its law's opening. Conditions: texts of at most 2^30 bytes.
-/
namespace Go.Proofs.Ytljinmfkogmmlaa.Quo
open Go.ChangeShapes Go.WideShapes Go.Deep Go.RowKit Cls Bd Pat
set_option maxRecDepth 100000
/-- The head as the reference finds it. -/
def headR (s : List UInt8) : List UInt8 := if (allB s 6 || resB s) = true then (if (decide (s.length = 1) && clsB (s.getD 0 0) != 6) = true then [] else [92]) else []
theorem safe_digit : ∀ c : UInt8, clsB c = 6 → safeB c = true := by
  intro c h
  unfold safeB
  rw [h]
  rfl
theorem headR_eq {s : List UInt8} (h0 : s ≠ []) : headR s = headL s := by
  unfold headR headL riskB
  have h1 : (s != []) = true := by simpa using h0
  rw [h1, Bool.true_and, show s.all digitB = allB s 6 from rfl]
  obtain ⟨c, l, rfl⟩ := List.exists_cons_of_ne_nil h0
  rw [show (c :: l).getD 0 0 = c from rfl]
  cases ha : allB (c :: l) 6 with
  | true =>
    have hc : clsB c = 6 := by
      have : (clsB c == 6 && allB l 6) = true := ha
      rw [Bool.and_eq_true, beq_iff_eq] at this
      exact this.1
    rw [safe_digit c hc, hc]
    simp
  | false =>
    cases hr : resB (c :: l) with
    | false => simp
    | true =>
      have hall : ∀ x ∈ resL, (decide (x.length = 1) && clsB (x.getD 0 0) != 6) = !safeB (x.getD 0 0) := by decide +kernel
      have := hall (c :: l) (List.contains_iff_mem.1 hr)
      rw [show (c :: l).getD 0 0 = c from rfl] at this
      rw [this]
      cases safeB c <;> rfl
def escK (s : List UInt8) (k : Nat) : List UInt8 := headL s ++ (s.take k).flatMap escB
theorem escK_all {s : List UInt8} (h : s ≠ []) : escK s s.length = plnL s := by
  unfold escK plnL
  rw [if_neg h, List.take_length]
theorem escK_step {s : List UInt8} {k : Nat} (h : k < s.length) : escK s (k + 1) = escK s k ++ escB s[k] := by
  unfold escK
  rw [List.take_succ_eq_append_getElem h, List.flatMap_append]
  simp
theorem escK_A {s : List UInt8} {k : Nat} (h : k < s.length) (h10 : ((s[k].toNat : Int) == 10) = true) : escK s (k + 1) = escK s k ++ [39, 10, 39] := by
  rw [is10, beq_iff_eq] at h10
  rw [escK_step h]
  unfold escB
  rw [if_pos h10]
theorem escK_B {s : List UInt8} {k : Nat} (h : k < s.length) (h10 : ((s[k].toNat : Int) == 10) = false) (hs : safeB s[k] = false) : escK s (k + 1) = escK s k ++ [92, s[k]] := by
  rw [is10, beq_eq_false_iff_ne] at h10
  rw [escK_step h]
  unfold escB
  rw [if_neg h10, if_neg (by rw [hs]; simp)]
theorem escK_C {s : List UInt8} {k : Nat} (h : k < s.length) (h10 : ((s[k].toNat : Int) == 10) = false) (hs : safeB s[k] = true) : escK s (k + 1) = escK s k ++ [s[k]] := by
  rw [is10, beq_eq_false_iff_ne] at h10
  rw [escK_step h]
  unfold escB
  rw [if_neg h10, if_pos hs]
theorem escK_len (s : List UInt8) (k : Nat) (hk : k ≤ s.length) : (escK s k).length ≤ 3 * s.length + 1 := by
  unfold escK
  have h1 := flat_len escB_len (s.take k)
  have h2 := headL_len s
  rw [List.length_append]
  rw [List.length_take] at h1
  have : 3 * (min k s.length) ≤ 3 * s.length := Nat.mul_le_mul_left 3 (by omega)
  omega
theorem sglK_len (s : List UInt8) (k : Nat) (hk : k ≤ s.length) : (sglK s k).length ≤ 4 * s.length + 1 := by
  unfold sglK
  have h1 := flat_len sglE_len (s.take k)
  rw [List.length_take] at h1
  have : 4 * (min k s.length) ≤ 4 * s.length := Nat.mul_le_mul_left 4 (by omega)
  rw [List.length_cons]
  omega
theorem take_drop1 {s : List UInt8} {k : Nat} (h : k < s.length) : (s.take (k + 1)).drop k = [s[k]] := by
  rw [List.drop_take, show k + 1 - k = 1 by omega, List.drop_eq_getElem_cons h]
  rfl
theorem is39 {c : UInt8} : ((c.toNat : Int) == 39) = (c == 39) := by
  rw [Bool.eq_iff_iff, beq_iff_eq, beq_iff_eq]
  constructor
  · intro h; exact UInt8.toNat_inj.1 (by simpa using (show c.toNat = 39 by omega))
  · rintro rfl; rfl
theorem dbl_in (c : UInt8) : ([36, 96, 34, 92] : List UInt8).contains c = dblB c := by
  have h : ∀ n : Fin 256, ([36, 96, 34, 92] : List UInt8).contains (UInt8.ofNat n.val) = dblB (UInt8.ofNat n.val) := by decide +kernel
  have := h ⟨c.toNat, c.toNat_lt⟩
  simpa using this
end Go.Proofs.Ytljinmfkogmmlaa.Quo
/-
  The walks of layer 17's reference, on: the shortest form; its law's opening. Conditions: texts of at most 2^30 bytes; the library's variable MaxLen holds some number.
-/
namespace Go.Proofs.Ytljinmfkogmmlaa.Quo
open Go.ChangeShapes Go.WideShapes Go.Deep Go.RowKit Cls Bd Pat
set_option maxRecDepth 100000
end Go.Proofs.Ytljinmfkogmmlaa.Quo
