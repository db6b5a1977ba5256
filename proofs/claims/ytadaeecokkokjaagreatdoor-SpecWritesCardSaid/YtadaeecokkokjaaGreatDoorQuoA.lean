/-
  The walks of layer 17 (quoting): forms. Conditions: texts of at most 2^30 bytes.
-/
import Derived.Lib.Replace
import Derived.Lib.IndexBytes
import Derived.Lib.IndexLaws
import Derived.Test.YtadaeecokkokjaaGreatDoorQuo1
import Derived.Test.YtadaeecokkokjaaGreatDoorBld
import Derived.Test.YtadaeecokkokjaaGreatDoorHist
import Derived.Lib.SplitLaws
set_option linter.unusedSimpArgs false
set_option linter.unusedVariables false
/-
  Forms of texts (layer 17), plainly. No program in sight.
-/
namespace Go.Proofs.YtadaeecokkokjaaGreatDoor.Quo
open Go.Lib
theorem replaceK_one (c : UInt8) (new : List UInt8) : ∀ s : List UInt8, replaceK [c] new (s.count c) s = s.flatMap fun b => if b = c then new else [b]
  | [] => rfl
  | b :: l => by
    have ih := replaceK_one c new l
    rw [List.flatMap_cons]
    by_cases h : b = c
    · subst h
      rw [List.count_cons_self, replaceK_hit [b] new _ _ 0 (by rw [index_one]; simp [indexByte])]
      simp [ih]
    · rw [List.count_cons_of_ne h, if_neg h]
      cases hk : l.count c with
      | zero =>
        rw [hk] at ih
        rw [← ih]
        rfl
      | succ k =>
        obtain ⟨i, hi⟩ := index_of_count (s := l) (old := [c]) (by rw [count_one, hk]; omega)
        have hi2 : index (b :: l) [c] = ((i + 1 : Nat) : Int) := by
          rw [index_one] at hi ⊢
          unfold indexByte
          rw [if_neg (by simpa using h), if_neg (by rw [hi]; simp), hi]
          omega
        rw [hk, replaceK_hit [c] new k l i hi] at ih
        rw [replaceK_hit [c] new k (b :: l) (i + 1) hi2]
        simp only [List.take_succ_cons, List.length_cons, List.length_nil] at ih ⊢
        rw [show i + 1 + (0 + 1) = (i + (0 + 1)) + 1 by omega, List.drop_succ_cons, List.cons_append, List.cons_append, ih]
        rfl
theorem replaceAll_one (c : UInt8) (new s : List UInt8) (h : [c] ≠ new) : replaceAll s [c] new = s.flatMap fun b => if b = c then new else [b] := by
  unfold replaceAll replace replaceNum
  rw [if_neg (by simpa using h), if_pos (.inl (by omega)), count_one]
  exact replaceK_one c new s
/-- A text's form between single quotes, its end left out; between double ones. -/
def sglL (s : List UInt8) : List UInt8 := 39 :: s.flatMap fun b => if b = 39 then [39, 92, 39, 39] else [b]
def dblB (b : UInt8) : Bool := b == 36 || b == 96 || b == 34 || b == 92
def dblL (s : List UInt8) : List UInt8 := 34 :: s.flatMap fun b => if dblB b = true then [92, b] else [b]
end Go.Proofs.YtadaeecokkokjaaGreatDoor.Quo
/-
  Forms of texts (layer 17), plainly, on: without quotes, in any state, the shortest. No program in sight.
-/
namespace Go.Proofs.YtadaeecokkokjaaGreatDoor.Quo
open Cls
/-- A byte's form where nothing is quoted. -/
def escB (b : UInt8) : List UInt8 := if b = 10 then [39, 10, 39] else if safeB b = true then [b] else [92, b]
/-- A text of safe bytes that could be taken for something else. -/
def riskB (s : List UInt8) : Bool := resB s || (s != [] && s.all digitB)
def headL (s : List UInt8) : List UInt8 := if (riskB s && safeB (s.getD 0 0)) = true then [92] else []
def plnL (s : List UInt8) : List UInt8 := if s = [] then [39, 39] else headL s ++ s.flatMap escB
def endL (closed : Bool) (e : UInt8) : List UInt8 := if closed = true then [e] else []
/-- A text's form in a state. -/
def encL (s : List UInt8) (state : Int) (closed : Bool) : List UInt8 :=
  if state = 4 then sglL s ++ endL closed 39 else if state = 5 then dblL s ++ endL closed 34 else plnL s
def shorter (a b : List UInt8) : List UInt8 := if b.length < a.length then b else a
def shortL (s : List UInt8) : List UInt8 := shorter (shorter (encL s 0 true) (encL s 4 true)) (encL s 5 true)
/-- The first k bytes' form. -/
def plnK (s : List UInt8) (k : Nat) : List UInt8 := if k = 0 then [] else headL s ++ (s.take k).flatMap escB
theorem plnK_all {s : List UInt8} (h : s ≠ []) : plnK s s.length = plnL s := by
  unfold plnK plnL
  rw [if_neg (by simpa using h), if_neg h, List.take_length]
theorem plnK_step {s : List UInt8} {k : Nat} (h : k < s.length) : plnK s (k + 1) = plnK s k ++ ((if k = 0 then headL s else []) ++ escB s[k]) := by
  unfold plnK
  rw [if_neg (by omega), List.take_succ_eq_append_getElem h, List.flatMap_append]
  by_cases hk : k = 0
  · subst hk; simp
  · rw [if_neg hk, if_neg hk]; simp
theorem is10 {c : UInt8} : ((c.toNat : Int) == 10) = (c == 10) := by
  rw [Bool.eq_iff_iff, beq_iff_eq, beq_iff_eq]
  constructor
  · intro h; exact UInt8.toNat_inj.1 (by simpa using (show c.toNat = 10 by omega))
  · rintro rfl; rfl
theorem head_no {s : List UInt8} {k : Nat} (h : k < s.length) (hs : safeB s[k] = false) : (if k = 0 then headL s else []) = [] := by
  by_cases hk : k = 0
  · subst hk
    rw [if_pos rfl]
    unfold headL
    rw [if_neg]
    rw [show s.getD 0 0 = s[0] by simp [List.getD, List.getElem?_eq_getElem h], hs]
    simp
  · rw [if_neg hk]
theorem plnK_A {s : List UInt8} {k : Nat} (h : k < s.length) (h10 : ((s[k].toNat : Int) == 10) = true) : plnK s (k + 1) = plnK s k ++ [39, 10, 39] := by
  rw [is10, beq_iff_eq] at h10
  rw [plnK_step h, head_no h (by rw [h10]; decide +kernel)]
  unfold escB
  rw [if_pos h10]
  rfl
theorem plnK_B {s : List UInt8} {k : Nat} (h : k < s.length) (h10 : ((s[k].toNat : Int) == 10) = false) (hs : safeB s[k] = false) : plnK s (k + 1) = (plnK s k ++ [92]) ++ [s[k]] := by
  rw [is10, beq_eq_false_iff_ne] at h10
  rw [plnK_step h, head_no h hs]
  unfold escB
  rw [if_neg h10, if_neg (by rw [hs]; simp)]
  simp
theorem plnK_C {s : List UInt8} {k : Nat} (h : k < s.length) (h10 : ((s[k].toNat : Int) == 10) = false) (hs : safeB s[k] = true) (hk : k = 0) (hr : riskB s = true) : plnK s (k + 1) = (plnK s k ++ [92]) ++ [s[k]] := by
  rw [is10, beq_eq_false_iff_ne] at h10
  rw [plnK_step h]
  unfold escB headL
  subst hk
  rw [if_neg h10, if_pos hs, if_pos rfl, if_pos (by rw [show s.getD 0 0 = s[0] by simp [List.getD, List.getElem?_eq_getElem h], hs, hr]; rfl)]
  simp
theorem plnK_D {s : List UInt8} {k : Nat} (h : k < s.length) (h10 : ((s[k].toNat : Int) == 10) = false) (hs : safeB s[k] = true) (hr : k = 0 → riskB s = false) : plnK s (k + 1) = plnK s k ++ [s[k]] := by
  rw [is10, beq_eq_false_iff_ne] at h10
  rw [plnK_step h]
  unfold escB headL
  rw [if_neg h10, if_pos hs]
  by_cases hk : k = 0
  · rw [if_pos hk, if_neg (by rw [hr hk]; simp)]
    rfl
  · rw [if_neg hk]
    rfl
theorem escB_ne (b : UInt8) : escB b ≠ [] := by
  unfold escB
  repeat' split
  all_goals simp
theorem plnL_ne (s : List UInt8) : plnL s ≠ [] := by
  unfold plnL
  split
  · simp
  · cases s with
    | nil => contradiction
    | cons b l =>
      rw [List.flatMap_cons]
      have := escB_ne b
      intro h
      have h2 := congrArg List.length h
      simp at h2
      exact this (by simpa using h2.2.1)
theorem encL_ne (s : List UInt8) (state : Int) (closed : Bool) : encL s state closed ≠ [] := by
  unfold encL
  split
  · unfold sglL; simp
  · split
    · unfold dblL; simp
    · exact plnL_ne s
theorem shorter_ne {a b : List UInt8} (ha : a ≠ []) (hb : b ≠ []) : shorter a b ≠ [] := by
  unfold shorter
  split <;> assumption
/-- The shortest of the first k forms. -/
def shortK (s : List UInt8) : Nat → List UInt8
  | 0 => []
  | 1 => encL s 0 true
  | 2 => shorter (encL s 0 true) (encL s 4 true)
  | _ => shortL s
theorem escB_len (b : UInt8) : (escB b).length ≤ 3 := by
  unfold escB
  repeat' split
  all_goals simp
theorem headL_len (s : List UInt8) : (headL s).length ≤ 1 := by
  unfold headL
  split <;> simp
theorem flat_len {f : UInt8 → List UInt8} {m : Nat} (h : ∀ b, (f b).length ≤ m) : ∀ s : List UInt8, (s.flatMap f).length ≤ m * s.length
  | [] => by simp
  | b :: l => by
    have := flat_len h l
    have := h b
    rw [List.flatMap_cons, List.length_append, List.length_cons, Nat.mul_add]
    omega
theorem plnK_len (s : List UInt8) (k : Nat) (hk : k ≤ s.length) : (plnK s k).length ≤ 3 * s.length + 1 := by
  unfold plnK
  split
  · simp
  · have h1 := flat_len escB_len (s.take k)
    have h2 := headL_len s
    rw [List.length_append]
    rw [List.length_take] at h1
    have : 3 * (min k s.length) ≤ 3 * s.length := Nat.mul_le_mul_left 3 (by omega)
    omega
def dblE (b : UInt8) : List UInt8 := if dblB b = true then [92, b] else [b]
def dblI (n : Int) : Bool := n == 36 || n == 96 || n == 34 || n == 92
theorem dblI_eq (c : UInt8) : dblB c = dblI c.toNat := by
  have h : ∀ n : Fin 256, dblB (UInt8.ofNat n.val) = dblI (UInt8.ofNat n.val).toNat := by decide +kernel
  have := h ⟨c.toNat, c.toNat_lt⟩
  simpa using this
theorem dblE_yes {c : UInt8} (h : dblI c.toNat = true) : dblE c = [92] ++ [c] := by unfold dblE; rw [dblI_eq, if_pos h]; rfl
theorem dblE_no {c : UInt8} (h : dblI c.toNat = false) : dblE c = [c] := by unfold dblE; rw [dblI_eq, if_neg (by rw [h]; simp)]
theorem dblE_len (b : UInt8) : (dblE b).length ≤ 2 := by unfold dblE; split <;> simp
def dblK (s : List UInt8) (k : Nat) : List UInt8 := 34 :: (s.take k).flatMap dblE
theorem dblK_all (s : List UInt8) : dblK s s.length = dblL s := by unfold dblK dblL; rw [List.take_length]; rfl
theorem dblK_step {s : List UInt8} {k : Nat} (h : k < s.length) : dblK s (k + 1) = dblK s k ++ dblE s[k] := by
  unfold dblK
  rw [List.take_succ_eq_append_getElem h, List.flatMap_append]
  simp
theorem dblK_len (s : List UInt8) (k : Nat) (hk : k ≤ s.length) : (dblK s k).length ≤ 2 * s.length + 1 := by
  unfold dblK
  have h1 := flat_len dblE_len (s.take k)
  rw [List.length_take] at h1
  have : 2 * (min k s.length) ≤ 2 * s.length := Nat.mul_le_mul_left 2 (by omega)
  rw [List.length_cons]
  omega
def sglE (b : UInt8) : List UInt8 := if b = 39 then [39, 92, 39, 39] else [b]
def sglK (s : List UInt8) (k : Nat) : List UInt8 := 39 :: (s.take k).flatMap sglE
theorem sglK_all (s : List UInt8) : sglK s s.length = sglL s := by unfold sglK sglL; rw [List.take_length]; rfl
theorem sglK_step {s : List UInt8} {k : Nat} (h : k < s.length) : sglK s (k + 1) = sglK s k ++ sglE s[k] := by
  unfold sglK
  rw [List.take_succ_eq_append_getElem h, List.flatMap_append]
  simp
theorem sglE_len (b : UInt8) : (sglE b).length ≤ 4 := by unfold sglE; split <;> simp
theorem sglL_len (s : List UInt8) : (sglL s).length ≤ 4 * s.length + 1 := by
  have h1 := flat_len sglE_len s
  have h2 : sglL s = 39 :: s.flatMap sglE := rfl
  rw [h2, List.length_cons]
  omega
theorem dblL_len (s : List UInt8) : (dblL s).length ≤ 2 * s.length + 1 := by
  have := dblK_len s s.length (Nat.le_refl _)
  rwa [dblK_all] at this
theorem plnL_len (s : List UInt8) : (plnL s).length ≤ 3 * s.length + 2 := by
  by_cases h : s = []
  · subst h; decide
  · have := plnK_len s s.length (Nat.le_refl _)
    rw [plnK_all h] at this
    omega
end Go.Proofs.YtadaeecokkokjaaGreatDoor.Quo
/-
  The walks of layer 17 (quoting), in part: what is risky, texts between double quotes. Conditions: texts of at most 2^30 bytes.
-/
namespace Go.Proofs.YtadaeecokkokjaaGreatDoor.Quo
open Go.ChangeShapes Go.WideShapes Go.Deep Go.RowKit Cls Bd Pat
set_option maxRecDepth 100000
theorem risky_any (s : List UInt8) (w : World) (hs : s.length ≤ 1073741824) : Calls Tryz.prog 64 #[.string (B s)] w fun e w' => e = .returned (.bool (riskB s)) ∧ w = w' := by
  have HR := Lib.hid fun w => reserved_any s w
  have HD := Lib.hid fun w => digits_any s 0 w hs (by omega)
  have hsp := span_all digitB s
  rw [List.drop_zero] at HD
  unfold riskB
  generalize spanN digitB s = n at *
  generalize resB s = r at *
  cases r with
  | true =>
    go_enter Tryz.func64, Tryz.ntmps64
    go_wp2_with (go_at_call 89; refine (HR.out _).mono ?_; rintro e w' ⟨rfl, rfl⟩)
    go_ret
    exact ⟨rfl, rfl⟩
  | false =>
    by_cases h0 : s = []
    · subst h0
      go_enter Tryz.func64, Tryz.ntmps64
      go_wp2_with (go_at_call 89; refine (HR.out _).mono ?_; rintro e w' ⟨rfl, rfl⟩)
      go_ret
      exact ⟨rfl, rfl⟩
    have h1 : (s != []) = true := by simpa using h0
    rw [h1]
    have hsI : ((n : Int) == (s.length : Int)) = s.all digitB := by
      rw [← hsp, Bool.eq_iff_iff, beq_iff_eq, beq_iff_eq]
      omega
    clear hsp
    generalize s.all digitB = a at *
    go_enter Tryz.func64, Tryz.ntmps64
    go_wp2_with (first | (go_at_call 89; refine (HR.out _).mono ?_; rintro e w' ⟨rfl, rfl⟩) | (go_at_call 90; refine (HD.out _).mono ?_; rintro e w' ⟨rfl, rfl⟩))
    go_ret
    exact ⟨Cls.ret_b (by simp [h0]), rfl⟩
set_option maxHeartbeats 2000000 in
theorem double_any (s : List UInt8) (w : World) (hs : s.length ≤ 1073741824) : Calls Tryz.prog 44 #[.string (B s)] w fun e w' => e = .returned (.string (B (dblL s))) ∧ Below w.heap.size w w' := by
  go_enter Tryz.func44, Tryz.ntmps44
  go_wp2_with (go_at_call 65; refine (wbyte_any 34 (Bld.new w w.heap.size) (by simp) (by simp)).mono ?_; rintro e w1 ⟨rfl, v1, h1, hk1⟩; have HB1 := Lib.hid h1; have hw1 := below_keeps (below_alloc (Below.refl w.heap.size w) _) hk1 (fun k hk => by omega); have HW1 := Lib.hid hw1; clear h1 hk1 hw1)
  go_loopw [4, 8] (fun _ i wr => ∃ (k : Nat) (v : Value), k ≤ s.length ∧ i = .int .i64 k ∧ Hid (Bld wr w.heap.size w.heap.size v (dblK s k)) ∧ Hid (Below w.heap.size w wr)) (fun _ i _ => s.length - (intOf i).toNat)
  case atStart => exact ⟨0, v1, by omega, rfl, HB1.out, HW1.out⟩
  case round =>
    clear HB1 HW1
    obtain ⟨k, v, hk, rfl, HB, HW⟩ := hrel
    have hsz := HW.out.size
    have hlen := dblK_len s k hk
    by_cases hlt : k < s.length
    · have hi0 : (0 : Int) ≤ (k : Int) := by omega
      have hi1 : (k : Int) < (s.length : Int) := by omega
      have HS := Lib.hid (dblK_step hlt)
      have HX := Lib.hid fun (W : World) (v : Value) (l : List UInt8) (h : Bld W w.heap.size w.heap.size v l) (hl : l.length + 1 ≤ 70368744177664) (hR : w.heap.size ≤ W.heap.size) => wbyte_any s[k] h hl hR
      have HY := Lib.hid fun (W : World) (v : Value) (l : List UInt8) (h : Bld W w.heap.size w.heap.size v l) (hl : l.length + 1 ≤ 70368744177664) (hR : w.heap.size ≤ W.heap.size) => wbyte_num 92 (n := 92) rfl h hl hR
      go_wp2_with (first
        | (go_at_call 65; (with_reducible refine (HY.out _ _ _ HB.out (by omega) hsz).mono ?_); rintro e w2 ⟨rfl, v2, h2, hk2⟩; have HB2 := Lib.hid h2; have hw2 := HW.out.trans (hk2.below hsz (fun k hk => by omega)); have HW2 := Lib.hid hw2; have hsz2 := hw2.size; clear h2 hk2 hw2 HY)
        | (go_at_call 65; (with_reducible refine (HX.out _ _ _ HB2.out (by rw [List.length_append]; simp; omega) hsz2).mono ?_); rintro e w3 ⟨rfl, v3, h3, hk3⟩; have HB3 := Lib.hid h3; have hw3 := HW2.out.trans (hk3.below hsz2 (fun k hk => by omega)); have HW3 := Lib.hid hw3; clear h3 hk3 hw3)
        | (go_at_call 65; (with_reducible refine (HX.out _ _ _ HB.out (by omega) hsz).mono ?_); rintro e w3 ⟨rfl, v3, h3, hk3⟩; have HB3 := Lib.hid h3; have hw3 := HW.out.trans (hk3.below hsz (fun k hk => by omega)); have HW3 := Lib.hid hw3; clear h3 hk3 hw3))
      all_goals
        go_roundw
        case rel => exact ⟨k + 1, _, by omega, by go_num, by first | (rw [HS.out, dblE_yes (by simp [dblI, *]), ← List.append_assoc]; exact HB3.out) | (rw [HS.out, dblE_no (by simp [dblI, *])]; exact HB3.out), HW3.out⟩
        case measure => simp [intOf]; omega
    · have hk' : k = s.length := by omega
      subst hk'
      rw [dblK_all] at HB
      have HST := Lib.hid (bstr_any HB.out (Nat.le_refl _) (Nat.le_refl _))
      clear hlt
      go_wp2_with (go_at_call 29; refine HST.out.mono ?_; rintro e w2 ⟨rfl, hb⟩; have HW2 := Lib.hid (HW.out.trans hb); clear hb)
      go_ret
      exact ⟨rfl, HW2.out⟩
end Go.Proofs.YtadaeecokkokjaaGreatDoor.Quo
/-
  The walks of layer 17 (quoting): the forms of a text, the shortest one. Conditions: texts of at most 2^30 bytes; the library's variable MaxLen holds some number.
-/
namespace Go.Proofs.YtadaeecokkokjaaGreatDoor.Quo
open Go.ChangeShapes Go.WideShapes Go.Deep Go.RowKit Cls Bd Pat
set_option maxRecDepth 100000
theorem single_any (s : List UInt8) (w : World) (hm : MaxL w) (hs : s.length ≤ 1073741824) : Calls Tryz.prog 43 #[.string (B s)] w fun e w' => e = .returned (.string (B (sglL s))) ∧ Below w.heap.size w w' := by
  obtain ⟨m, hm⟩ := hm
  have hc := Lib.countB_le (B [39]) (by rw [B_size]; simp) (B s).size (B s) (Nat.le_refl _)
  have hR := Tryz.strings_ReplaceAll (B s) (B [39]) (B [39, 92, 39, 39]) m w (by rw [B_size]; omega) hm (by rw [B_size]; simp) (by rw [B_size] at hc ⊢; rw [B_size]; simp; omega)
  rw [B_data, B_data, B_data, replaceAll_one 39 _ s (by decide)] at hR
  have HR := Lib.hid hR
  clear hR hc
  have HE : Hid (sglL s = 39 :: s.flatMap fun b => if b = 39 then [39, 92, 39, 39] else [b]) := rfl
  rw [HE.out]
  have hl := flat_len (f := fun b => if b = 39 then [39, 92, 39, 39] else [b]) (m := 4) (by intro b; split <;> simp) s
  have hl2 : (s.flatMap fun b => if b = 39 then [39, 92, 39, 39] else [b]).length ≤ 4294967296 := by omega
  clear hl
  generalize (s.flatMap fun b => if b = 39 then [39, 92, 39, 39] else [b]) = t at *
  go_enter Tryz.func43, Tryz.ntmps43
  go_wp2_with (go_at_call 66; refine HR.out.mono ?_; rintro e w1 ⟨rfl, hb⟩; have HB := Lib.hid hb; clear hb)
  go_ret
  exact ⟨rfl, HB.out⟩
/-- What holds at each round of plain's loop. -/
def PlnI (s : List UInt8) (w : World) (i : Value) (wr : World) : Prop := ∃ (k : Nat) (v : Value), k ≤ s.length ∧ i = .int .i64 k ∧ Hid (Bld wr w.heap.size w.heap.size v (plnK s k)) ∧ Hid (Below w.heap.size w wr)
theorem PlnI.mk {s : List UInt8} {w wr : World} {i : Value} {v : Value} {l : List UInt8} (k : Nat) (h1 : k ≤ s.length) (h2 : i = .int .i64 k) (he : plnK s k = l) (h3 : Bld wr w.heap.size w.heap.size v l) (h4 : Below w.heap.size w wr) : PlnI s w i wr := ⟨k, v, h1, h2, by rw [he]; exact h3, h4⟩
set_option maxHeartbeats 4000000 in
theorem plain_any (s : List UInt8) (w : World) (hs : s.length ≤ 1073741824) : Calls Tryz.prog 42 #[.string (B s)] w fun e w' => e = .returned (.string (B (plnL s))) ∧ Below w.heap.size w w' := by
  by_cases h0 : s = []
  · subst h0
    go_enter Tryz.func42, Tryz.ntmps42
    go_wp2
    go_ret
    exact ⟨rfl, Below.refl _ _⟩
  have e0 : (s == []) = false := by simpa using h0
  have HK := Lib.hid (plnK_all h0)
  have HRI := Lib.hid fun w => risky_any s w hs
  clear h0
  go_enter Tryz.func42, Tryz.ntmps42
  go_wp2
  clear e0
  rw [show ({ data := #[] } : ByteArray) = B [] from rfl]
  go_loopw [4, 9] (fun _ i wr => PlnI s w i wr) (fun _ i _ => s.length - (intOf i).toNat)
  case atStart => exact PlnI.mk 0 (by omega) rfl rfl (Bld.new w _) (below_alloc (Below.refl _ _) _)
  case round =>
    obtain ⟨k, v, hk, rfl, HB, HW⟩ := hrel
    have hsz := HW.out.size
    have hlen := plnK_len s k hk
    by_cases hlt : k < s.length
    · have hi0 : (0 : Int) ≤ (k : Int) := by omega
      have hi1 : (k : Int) < (s.length : Int) := by omega
      have HSA := Lib.hid (plnK_A hlt)
      have HSB := Lib.hid (plnK_B hlt)
      have HSC := Lib.hid (plnK_C hlt)
      have HSD := Lib.hid (plnK_D hlt)
      have HX := Lib.hid fun (W : World) (v : Value) (l : List UInt8) (h : Bld W w.heap.size w.heap.size v l) (hl : l.length + 1 ≤ 70368744177664) (hR : w.heap.size ≤ W.heap.size) => wbyte_any s[k] h hl hR
      have HY := Lib.hid fun (W : World) (v : Value) (l : List UInt8) (h : Bld W w.heap.size w.heap.size v l) (hl : l.length + 1 ≤ 70368744177664) (hR : w.heap.size ≤ W.heap.size) => wbyte_num 92 (n := 92) rfl h hl hR
      have HZ := Lib.hid fun (W : World) (v : Value) (l : List UInt8) (h : Bld W w.heap.size w.heap.size v l) (hl : l.length + 3 ≤ 70368744177664) (hR : w.heap.size ≤ W.heap.size) => wstr_any (s := [39, 10, 39]) h hl hR
      have HS := Lib.hid fun W => safe_any s[k] W
      cases hsf : safeB s[k] with
      | false =>
        rw [hsf] at HS HSB
        have HSB2 := Lib.hid fun h => HSB.out h rfl
        clear hsf HSC HSD HRI HSB
        go_wp2_with (first
          | (go_at_call 63; refine (HS.out _).mono ?_; rintro e w' ⟨rfl, rfl⟩)
          | (go_at_call 28; (with_reducible refine (HZ.out _ _ _ HB.out (by omega) hsz).mono ?_); rintro e w3 ⟨rfl, v3, h3, hk3⟩; have HB3 := Lib.hid h3; have hw3 := HW.out.trans (hk3.below hsz (fun k hk => by omega)); have HW3 := Lib.hid hw3; clear h3 hk3 hw3)
          | (go_at_call 65; (with_reducible refine (HY.out _ _ _ HB.out (by omega) hsz).mono ?_); rintro e w2 ⟨rfl, v2, h2, hk2⟩; have HB2 := Lib.hid h2; have hw2 := HW.out.trans (hk2.below hsz (fun k hk => by omega)); have HW2 := Lib.hid hw2; have hsz2 := hw2.size; clear h2 hk2 hw2 HY)
          | (go_at_call 65; (with_reducible refine (HX.out _ _ _ HB2.out (by rw [List.length_append]; simp; omega) hsz2).mono ?_); rintro e w3 ⟨rfl, v3, h3, hk3⟩; have HB3 := Lib.hid h3; have hw3 := HW2.out.trans (hk3.below hsz2 (fun k hk => by omega)); have HW3 := Lib.hid hw3; clear h3 hk3 hw3))
        all_goals
          go_roundw
          case rel => exact PlnI.mk (s := s) (w := w) (k + 1) (by omega) (by go_num) (by first | exact HSA.out (by simp [*]) | exact HSB2.out (by simp [*])) HB3.out HW3.out
          case measure => simp [intOf]; omega
      | true =>
        rw [hsf] at HS HSC HSD
        clear hsf HSB
        by_cases hk0 : k = 0
        · have k0 : ((k : Int) == 0) = true := by simp [hk0]
          cases hri : riskB s with
          | true =>
            rw [hri] at HRI HSC
            have HSC2 := Lib.hid fun h => HSC.out h rfl hk0 rfl
            clear hri HSD HSC hk0
            go_wp2_with (first
              | (go_at_call 63; refine (HS.out _).mono ?_; rintro e w' ⟨rfl, rfl⟩)
              | (go_at_call 64; refine (HRI.out _).mono ?_; rintro e w' ⟨rfl, rfl⟩)
              | (go_at_call 28; (with_reducible refine (HZ.out _ _ _ HB.out (by omega) hsz).mono ?_); rintro e w3 ⟨rfl, v3, h3, hk3⟩; have HB3 := Lib.hid h3; have hw3 := HW.out.trans (hk3.below hsz (fun k hk => by omega)); have HW3 := Lib.hid hw3; clear h3 hk3 hw3)
              | (go_at_call 65; (with_reducible refine (HY.out _ _ _ HB.out (by omega) hsz).mono ?_); rintro e w2 ⟨rfl, v2, h2, hk2⟩; have HB2 := Lib.hid h2; have hw2 := HW.out.trans (hk2.below hsz (fun k hk => by omega)); have HW2 := Lib.hid hw2; have hsz2 := hw2.size; clear h2 hk2 hw2 HY)
              | (go_at_call 65; (with_reducible refine (HX.out _ _ _ HB2.out (by rw [List.length_append]; simp; omega) hsz2).mono ?_); rintro e w3 ⟨rfl, v3, h3, hk3⟩; have HB3 := Lib.hid h3; have hw3 := HW2.out.trans (hk3.below hsz2 (fun k hk => by omega)); have HW3 := Lib.hid hw3; clear h3 hk3 hw3))
            all_goals
              go_roundw
              case rel => exact PlnI.mk (s := s) (w := w) (k + 1) (by omega) (by go_num) (by first | exact HSA.out (by simp [*]) | exact HSC2.out (by simp [*])) HB3.out HW3.out
              case measure => simp [intOf]; omega
          | false =>
            rw [hri] at HRI HSD
            have HSD2 := Lib.hid fun h => HSD.out h rfl (fun _ => rfl)
            clear hri HSD HSC hk0
            go_wp2_with (first
              | (go_at_call 63; refine (HS.out _).mono ?_; rintro e w' ⟨rfl, rfl⟩)
              | (go_at_call 64; refine (HRI.out _).mono ?_; rintro e w' ⟨rfl, rfl⟩)
              | (go_at_call 28; (with_reducible refine (HZ.out _ _ _ HB.out (by omega) hsz).mono ?_); rintro e w3 ⟨rfl, v3, h3, hk3⟩; have HB3 := Lib.hid h3; have hw3 := HW.out.trans (hk3.below hsz (fun k hk => by omega)); have HW3 := Lib.hid hw3; clear h3 hk3 hw3)
              | (go_at_call 65; (with_reducible refine (HX.out _ _ _ HB.out (by omega) hsz).mono ?_); rintro e w3 ⟨rfl, v3, h3, hk3⟩; have HB3 := Lib.hid h3; have hw3 := HW.out.trans (hk3.below hsz (fun k hk => by omega)); have HW3 := Lib.hid hw3; clear h3 hk3 hw3))
            all_goals
              go_roundw
              case rel => exact PlnI.mk (s := s) (w := w) (k + 1) (by omega) (by go_num) (by first | exact HSA.out (by simp [*]) | exact HSD2.out (by simp [*])) HB3.out HW3.out
              case measure => simp [intOf]; omega
        · have k0 : ((k : Int) == 0) = false := by simp [hk0]
          have HSD2 := Lib.hid fun h => HSD.out h rfl (fun h2 => absurd h2 hk0)
          clear HSD HSC hk0
          go_wp2_with (first
            | (go_at_call 63; refine (HS.out _).mono ?_; rintro e w' ⟨rfl, rfl⟩)
            | (go_at_call 28; (with_reducible refine (HZ.out _ _ _ HB.out (by omega) hsz).mono ?_); rintro e w3 ⟨rfl, v3, h3, hk3⟩; have HB3 := Lib.hid h3; have hw3 := HW.out.trans (hk3.below hsz (fun k hk => by omega)); have HW3 := Lib.hid hw3; clear h3 hk3 hw3)
            | (go_at_call 65; (with_reducible refine (HX.out _ _ _ HB.out (by omega) hsz).mono ?_); rintro e w3 ⟨rfl, v3, h3, hk3⟩; have HB3 := Lib.hid h3; have hw3 := HW.out.trans (hk3.below hsz (fun k hk => by omega)); have HW3 := Lib.hid hw3; clear h3 hk3 hw3))
          all_goals
            go_roundw
            case rel => exact PlnI.mk (s := s) (w := w) (k + 1) (by omega) (by go_num) (by first | exact HSA.out (by simp [*]) | exact HSD2.out (by simp [*])) HB3.out HW3.out
            case measure => simp [intOf]; omega
    · have hk' : k = s.length := by omega
      subst hk'
      rw [HK.out] at HB
      have HST := Lib.hid (bstr_any HB.out (Nat.le_refl _) (Nat.le_refl _))
      clear hlt
      go_wp2_with (go_at_call 29; refine HST.out.mono ?_; rintro e w2 ⟨rfl, hb⟩; have HW2 := Lib.hid (HW.out.trans hb); clear hb)
      go_ret
      exact ⟨rfl, HW2.out⟩
theorem encode_any (s : List UInt8) (state : Int) (closed : Bool) (w : World) (hm : MaxL w) (hs : s.length ≤ 1073741824) : Calls Tryz.prog 26 #[.string (B s), .int .i64 state, .bool closed] w fun e w' => e = .returned (.string (B (encL s state closed))) ∧ Below w.heap.size w w' := by
  have HP := Lib.hid (plain_any s w hs)
  have HS := Lib.hid fun W (hb : Below w.heap.size w W) => single_any s W (hm.below hb) hs
  have HD := Lib.hid fun W => double_any s W hs
  have HE := Lib.hid (show encL s state closed = if state = 4 then sglL s ++ endL closed 39 else if state = 5 then dblL s ++ endL closed 34 else plnL s from rfl)
  unfold endL at HE
  have la := sglL_len s
  have lb := dblL_len s
  have lc := plnL_len s
  generalize encL s state closed = r at *
  generalize sglL s = a at *
  generalize dblL s = b at *
  generalize plnL s = c at *
  go_enter Tryz.func26, Tryz.ntmps26
  go_wp2_with (first
    | (go_at_call 42; refine HP.out.mono ?_; rintro e w1 ⟨rfl, hb⟩; have HB := Lib.hid hb; clear hb)
    | (go_at_call 43; refine (HS.out _ HB.out).mono ?_; rintro e w2 ⟨rfl, hb⟩; have HB2 := Lib.hid (below_then HB.out hb); clear hb)
    | (go_at_call 44; refine (HD.out _).mono ?_; rintro e w2 ⟨rfl, hb⟩; have HB2 := Lib.hid (below_then HB.out hb); clear hb))
  all_goals
    go_ret
    first
      | exact ⟨by rw [HE.out]; simp_all, HB2.out⟩
      | exact ⟨by rw [HE.out]; simp_all, HB.out⟩
set_option maxHeartbeats 2000000 in
theorem shortest_any (s : List UInt8) (w : World) (hm : MaxL w) (hs : s.length ≤ 1073741824) : Calls Tryz.prog 15 #[.string (B s)] w fun e w' => e = .returned (.string (B (shortL s))) ∧ Below w.heap.size w w' := by
  have HE := Lib.hid fun st W (hb : Below w.heap.size w W) => encode_any s st true W (hm.below hb) hs
  go_enter Tryz.func15, Tryz.ntmps15
  go_wp2
  go_step3
  go_wp2
  go_step3
  go_wp2
  rw [show ({ data := #[] } : ByteArray) = B [] from rfl]
  go_loopw [3, 5, 6, 9] (fun best _ _ i wr => ∃ k : Nat, k ≤ 3 ∧ i = .int .i64 k ∧ best = .string (B (shortK s k)) ∧ Hid (Below (w.heap.size + 1) (w.alloc (.cells #[.int .i64 0, .int .i64 4, .int .i64 5] 3)) wr)) (fun _ _ _ i _ => 3 - (intOf i).toNat)
  case atStart => exact ⟨0, by omega, rfl, rfl, Below.refl _ _⟩
  case round =>
    obtain ⟨k, hk, rfl, rfl, HW⟩ := hrel
    have hcell : ∀ (j : Nat) v, [Value.int .i64 0, .int .i64 4, .int .i64 5][j]? = some v → wr.cell? ⟨w.heap.size, j, none⟩ = some v := fun j v hj => by
      rw [HW.out.cell (p := ⟨w.heap.size, j, none⟩) (by simp)]
      have hh := heap_alloc_new w (.cells #[.int .i64 0, .int .i64 4, .int .i64 5] 3)
      unfold World.cell?
      simp only [hh]
      simpa using hj
    have hbw : Below w.heap.size w wr := (below_alloc (Below.refl _ _) _).trans (HW.out.mono (by omega))
    have HB := Lib.hid hbw
    match k, hk with
    | 0, _ =>
      have c0 := hcell 0 _ rfl
      have HEE := Lib.hid (HE.out 0 _ hbw)
      have h0 : shortK s 0 = [] := rfl
      rw [h0]
      clear hcell hbw h0
      go_wp2_with (go_at_call 26; refine HEE.out.mono ?_; rintro e w2 ⟨rfl, hb⟩; have HB2 := Lib.hid (HW.out.trans (hb.mono (by have := HW.out.size; simp at this; omega))); clear hb)
      go_roundw
      case rel => exact ⟨1, by omega, by go_num, rfl, HB2.out⟩
      case measure => simp [intOf]
    | 1, _ =>
      have c0 := hcell 1 _ rfl
      have HEE := Lib.hid (HE.out 4 _ hbw)
      have h1 : shortK s 1 = encL s 0 true := rfl
      have h2 : ∀ x, x = shorter (encL s 0 true) (encL s 4 true) → Value.string (B x) = .string (B (shortK s 2)) := fun x h => by rw [h]; rfl
      have HN := encL_ne s 0 true
      have HN2 : (!(encL s 0 true).isEmpty) = true := by simpa using HN
      have H2 := Lib.hid h2
      rw [h1]
      clear hcell hbw h1 h2
      generalize encL s 0 true = a at *
      generalize encL s 4 true = b at *
      go_wp2_with (go_at_call 26; refine HEE.out.mono ?_; rintro e w2 ⟨rfl, hb⟩; have HB2 := Lib.hid (HW.out.trans (hb.mono (by have := HW.out.size; simp at this; omega))); clear hb)
      all_goals
        go_roundw
        case rel => exact ⟨2, by omega, by go_num, H2.out _ (by unfold shorter; first | rw [if_neg (by omega)] | rw [if_pos (by omega)]), HB2.out⟩
        case measure => simp [intOf]
    | 2, _ =>
      have c0 := hcell 2 _ rfl
      have HEE := Lib.hid (HE.out 5 _ hbw)
      have h1 : shortK s 2 = shorter (encL s 0 true) (encL s 4 true) := rfl
      have h2 : ∀ x, x = shorter (shorter (encL s 0 true) (encL s 4 true)) (encL s 5 true) → Value.string (B x) = .string (B (shortK s 3)) := fun x h => by rw [h]; rfl
      have HN := shorter_ne (encL_ne s 0 true) (encL_ne s 4 true)
      have HN2 : (!(shorter (encL s 0 true) (encL s 4 true)).isEmpty) = true := by simpa using HN
      have H2 := Lib.hid h2
      rw [h1]
      clear hcell hbw h1 h2
      generalize shorter (encL s 0 true) (encL s 4 true) = a at *
      generalize encL s 5 true = b at *
      go_wp2_with (go_at_call 26; refine HEE.out.mono ?_; rintro e w2 ⟨rfl, hb⟩; have HB2 := Lib.hid (HW.out.trans (hb.mono (by have := HW.out.size; simp at this; omega))); clear hb)
      all_goals
        go_roundw
        case rel => exact ⟨3, by omega, by go_num, H2.out _ (by unfold shorter; first | rw [if_neg (by omega)] | rw [if_pos (by omega)]), HB2.out⟩
        case measure => simp [intOf]
    | 3, _ =>
      have h1 : shortK s 3 = shortL s := rfl
      rw [h1]
      clear hcell
      go_wp2
      rw [Exit.noGoto_ret]
      go_ret
      exact ⟨rfl, HB.out⟩
end Go.Proofs.YtadaeecokkokjaaGreatDoor.Quo
/-
  The walks of layer 17's reference: the forms of a text, the shortest one; and of its law's opening. Conditions: texts of at most 2^30 bytes.
-/
namespace Go.Proofs.YtadaeecokkokjaaGreatDoor.Quo
open Go.ChangeShapes Go.WideShapes Go.Deep Go.RowKit Cls Bd Pat
set_option maxRecDepth 100000
def allB (s : List UInt8) (k : Int) : Bool := s.all fun c => clsB c == k
theorem all_any (s : List UInt8) (k : Int) (w : World) (hs : s.length ≤ 1073741824) : Calls Tryz.prog 49 #[.string (B s), .int .i64 k] w fun e w' => e = .returned (.bool (allB s k)) ∧ w = w' := by
  have HC := Lib.hid fun c w => refClass_any c w
  go_enter Tryz.func49, Tryz.ntmps49
  go_wp2
  go_loopw [5] (fun i w' => ∃ j : Nat, j ≤ s.length ∧ i = .int .i64 j ∧ w = w' ∧ Hid (allB (s.take j) k = true)) (fun i _ => s.length - (intOf i).toNat)
  case atStart => exact ⟨0, by omega, rfl, rfl, rfl⟩
  case round =>
    obtain ⟨j, hj, rfl, rfl, HT⟩ := hrel
    by_cases hlt : j < s.length
    · have h0 : (0 : Int) ≤ (j : Int) := by omega
      have h1 : (j : Int) < (s.length : Int) := by omega
      have HCC := Lib.hid fun w => HC.out s[j] w
      have hst : allB (s.take (j + 1)) k = (allB (s.take j) k && (clsB s[j] == k)) := by
        unfold allB
        rw [List.take_succ_eq_append_getElem hlt, List.all_append]
        simp
      rw [HT.out, Bool.true_and] at hst
      have HST := Lib.hid hst
      clear hst
      cases hc : (clsB s[j] == k) with
      | true =>
        have hn : (clsB s[j] != k) = false := by rw [bne, hc]; rfl
        rw [hc] at HST
        clear hc
        generalize clsB s[j] = c at *
        go_wp2_with (go_at_call 47; refine (HCC.out _).mono ?_; rintro e w' ⟨rfl, rfl⟩)
        go_roundw
        case rel => exact ⟨j + 1, by omega, by go_num, by trivial, HST.out⟩
        case measure => simp [intOf]; omega
      | false =>
        have hn : (clsB s[j] != k) = true := by rw [bne, hc]; rfl
        have hres : allB s k = false := by
          have h2 : allB s k = (allB (s.take (j + 1)) k && allB (s.drop (j + 1)) k) := by
            unfold allB
            rw [← List.all_append, List.take_append_drop]
          rw [h2, HST.out, hc, Bool.false_and]
        have HRES := Lib.hid hres
        clear hc hres
        generalize clsB s[j] = c at *
        go_wp2_with (go_at_call 47; refine (HCC.out _).mono ?_; rintro e w' ⟨rfl, rfl⟩)
        go_ret
        exact ⟨by rw [HRES.out]; rfl, rfl⟩
    · have hj' : j = s.length := by omega
      subst hj'
      rw [List.take_length] at HT
      clear hlt
      go_wp2
      go_ret
      exact ⟨by rw [HT.out]; rfl, rfl⟩
theorem res_nil : resB [] = false := by decide +kernel
theorem res_blank {s : List UInt8} (h : s.contains 32 = true) : resB s = false := by
  cases hr : resB s with
  | false => rfl
  | true =>
    have hall : ∀ x ∈ resL, x.contains 32 = false := by decide +kernel
    have := hall s (List.contains_iff_mem.1 hr)
    rw [h] at this
    cases this
set_option maxHeartbeats 1000000 in
theorem refReserved_any (s : List UInt8) (w : World) (hs : s.length ≤ 1073741824) : Calls Tryz.prog 50 #[.string (B s)] w fun e w' => e = .returned (.bool (resB s)) ∧ w = w' := by
  by_cases h0 : s = []
  · subst h0
    rw [res_nil]
    go_enter Tryz.func50, Tryz.ntmps50
    go_wp2
    go_ret
    exact ⟨rfl, rfl⟩
  have hl : 0 < s.length := List.length_pos_iff.2 h0
  have l0 : ((s.length : Int) == 0) = false := by simp [h0]
  have HI := Lib.hid fun w => in_any 32 s w (by omega)
  rw [show ((32 : UInt8).toNat : Int) = 32 by decide] at HI
  cases hc : s.contains 32 with
  | true =>
    rw [res_blank hc]
    rw [hc] at HI
    clear hc h0 hl
    go_enter Tryz.func50, Tryz.ntmps50
    go_wp2_with (go_at_call 48; refine (HI.out _).mono ?_; rintro e w' ⟨rfl, rfl⟩)
    go_ret
    exact ⟨rfl, rfl⟩
  | false =>
    have h32 : 32 ∉ s := by
      intro h
      rw [List.contains_iff_mem.2 h] at hc
      cases hc
    rw [hc] at HI
    have hno : ∀ i, i + (32 :: (s ++ [32])).length ≤ 65 → (resW.take (i + (32 :: (s ++ [32])).length)).drop i = 32 :: (s ++ [32]) → resB s = true := by
      intro i hi he
      rw [List.drop_take, Nat.add_sub_cancel_left, show (32 :: (s ++ [32])).length = s.length + 2 by simp] at he
      exact res_no h0 h32 (i := i) (by rw [show resW.length = 65 by decide]; simpa using hi) he
    have hyes : resB s = true → ∃ i, i + (32 :: (s ++ [32])).length ≤ 65 ∧ (resW.take (i + (32 :: (s ++ [32])).length)).drop i = 32 :: (s ++ [32]) := by
      intro h
      obtain ⟨i, h1, h2⟩ := res_yes h
      refine ⟨i, ?_, ?_⟩
      · rw [show resW.length = 65 by decide] at h1; simpa using h1
      · rw [List.drop_take, Nat.add_sub_cancel_left, show (32 :: (s ++ [32])).length = s.length + 2 by simp]
        exact h2
    have htl : (32 :: (s ++ [32])).length ≤ 1073741826 := by simp; omega
    have HNO := Lib.hid hno
    have HYES := Lib.hid hyes
    generalize resB s = r at *
    clear hc h0 h32 hno hyes
    go_enter Tryz.func50, Tryz.ntmps50
    go_wp2_with (go_at_call 48; refine (HI.out _).mono ?_; rintro e w' ⟨rfl, rfl⟩)
    generalize 32 :: (s ++ [32]) = t at *
    go_loopw [4] (fun i w' => ∃ k : Nat, k ≤ 66 ∧ i = .int .i64 k ∧ w = w' ∧ Hid (∀ j, j < k → j + t.length ≤ 65 → ¬ (resW.take (j + t.length)).drop j = t)) (fun i _ => 66 - (intOf i).toNat)
    case atStart => exact ⟨0, by omega, rfl, rfl, fun j hj => by omega⟩
    case round =>
      obtain ⟨k, hk, rfl, rfl, HF⟩ := hrel
      by_cases hle : k + t.length ≤ 65
      · have i0 : (0 : Int) ≤ (k : Int) := by omega
        have i1 : (k : Int) + (t.length : Int) ≤ 65 := by omega
        by_cases heq : (resW.take (k + t.length)).drop k = t
        · have hr := HNO.out k hle heq
          have HR := Lib.hid hr
          have he2 : ((resW.take (k + t.length)).drop k == t) = true := by simpa using heq
          unfold resW at he2
          clear hr heq
          go_wp2
          go_ret
          exact ⟨by rw [HR.out]; rfl, rfl⟩
        · have he2 : ((resW.take (k + t.length)).drop k == t) = false := by simpa using heq
          have HF2 := Lib.hid (show ∀ j, j < k + 1 → j + t.length ≤ 65 → ¬ (resW.take (j + t.length)).drop j = t from fun j hj h => by
            rcases Nat.lt_succ_iff_lt_or_eq.1 hj with h1 | rfl
            · exact HF.out j h1 h
            · exact heq)
          unfold resW at he2
          clear heq HF
          go_wp2
          go_roundw
          case rel => exact ⟨k + 1, by omega, by go_num, by trivial, HF2.out⟩
          case measure => simp [intOf]; omega
      · have hr : r = false := by
          cases r with
          | false => rfl
          | true =>
            obtain ⟨i, h1, h2⟩ := HYES.out rfl
            by_cases hik : i < k
            · exact absurd h2 (HF.out i hik h1)
            · omega
        have HR := Lib.hid hr
        have i1 := no (show ¬ (k : Int) + (t.length : Int) ≤ 65 by omega)
        clear hr hle
        go_wp2
        go_ret
        exact ⟨by rw [HR.out]; rfl, rfl⟩
end Go.Proofs.YtadaeecokkokjaaGreatDoor.Quo
/-
  The walks of layer 17's reference, on: the forms of a text, the shortest one; its law's opening. Conditions: texts of at most 2^30 bytes.
-/
namespace Go.Proofs.YtadaeecokkokjaaGreatDoor.Quo
open Go.ChangeShapes Go.WideShapes Go.Deep Go.RowKit Cls Bd Pat
set_option maxRecDepth 100000
/-- The head as the reference finds it. -/
def headR (s : List UInt8) : List UInt8 := if (allB s 6 || resB s) = true then (if (decide (s.length = 1) && clsB (s.getD 0 0) != 6) = true then [] else [92]) else []
theorem safe_digit : ∀ c : UInt8, clsB c = 6 → safeB c = true := by
  intro c h
  unfold safeB
  rw [h]
  rfl
theorem headR_eq {s : List UInt8} (h0 : s ≠ []) : headR s = headL s := by
  unfold headR headL riskB
  have h1 : (s != []) = true := by simpa using h0
  rw [h1, Bool.true_and, show s.all digitB = allB s 6 from rfl]
  obtain ⟨c, l, rfl⟩ := List.exists_cons_of_ne_nil h0
  rw [show (c :: l).getD 0 0 = c from rfl]
  cases ha : allB (c :: l) 6 with
  | true =>
    have hc : clsB c = 6 := by
      have : (clsB c == 6 && allB l 6) = true := ha
      rw [Bool.and_eq_true, beq_iff_eq] at this
      exact this.1
    rw [safe_digit c hc, hc]
    simp
  | false =>
    cases hr : resB (c :: l) with
    | false => simp
    | true =>
      have hall : ∀ x ∈ resL, (decide (x.length = 1) && clsB (x.getD 0 0) != 6) = !safeB (x.getD 0 0) := by decide +kernel
      have := hall (c :: l) (List.contains_iff_mem.1 hr)
      rw [show (c :: l).getD 0 0 = c from rfl] at this
      rw [this]
      cases safeB c <;> rfl
def escK (s : List UInt8) (k : Nat) : List UInt8 := headL s ++ (s.take k).flatMap escB
theorem escK_all {s : List UInt8} (h : s ≠ []) : escK s s.length = plnL s := by
  unfold escK plnL
  rw [if_neg h, List.take_length]
theorem escK_step {s : List UInt8} {k : Nat} (h : k < s.length) : escK s (k + 1) = escK s k ++ escB s[k] := by
  unfold escK
  rw [List.take_succ_eq_append_getElem h, List.flatMap_append]
  simp
theorem escK_A {s : List UInt8} {k : Nat} (h : k < s.length) (h10 : ((s[k].toNat : Int) == 10) = true) : escK s (k + 1) = escK s k ++ [39, 10, 39] := by
  rw [is10, beq_iff_eq] at h10
  rw [escK_step h]
  unfold escB
  rw [if_pos h10]
theorem escK_B {s : List UInt8} {k : Nat} (h : k < s.length) (h10 : ((s[k].toNat : Int) == 10) = false) (hs : safeB s[k] = false) : escK s (k + 1) = escK s k ++ [92, s[k]] := by
  rw [is10, beq_eq_false_iff_ne] at h10
  rw [escK_step h]
  unfold escB
  rw [if_neg h10, if_neg (by rw [hs]; simp)]
theorem escK_C {s : List UInt8} {k : Nat} (h : k < s.length) (h10 : ((s[k].toNat : Int) == 10) = false) (hs : safeB s[k] = true) : escK s (k + 1) = escK s k ++ [s[k]] := by
  rw [is10, beq_eq_false_iff_ne] at h10
  rw [escK_step h]
  unfold escB
  rw [if_neg h10, if_pos hs]
theorem escK_len (s : List UInt8) (k : Nat) (hk : k ≤ s.length) : (escK s k).length ≤ 3 * s.length + 1 := by
  unfold escK
  have h1 := flat_len escB_len (s.take k)
  have h2 := headL_len s
  rw [List.length_append]
  rw [List.length_take] at h1
  have : 3 * (min k s.length) ≤ 3 * s.length := Nat.mul_le_mul_left 3 (by omega)
  omega
theorem sglK_len (s : List UInt8) (k : Nat) (hk : k ≤ s.length) : (sglK s k).length ≤ 4 * s.length + 1 := by
  unfold sglK
  have h1 := flat_len sglE_len (s.take k)
  rw [List.length_take] at h1
  have : 4 * (min k s.length) ≤ 4 * s.length := Nat.mul_le_mul_left 4 (by omega)
  rw [List.length_cons]
  omega
theorem take_drop1 {s : List UInt8} {k : Nat} (h : k < s.length) : (s.take (k + 1)).drop k = [s[k]] := by
  rw [List.drop_take, show k + 1 - k = 1 by omega, List.drop_eq_getElem_cons h]
  rfl
theorem dbl_in (c : UInt8) : ([36, 96, 34, 92] : List UInt8).contains c = dblB c := by
  have h : ∀ n : Fin 256, ([36, 96, 34, 92] : List UInt8).contains (UInt8.ofNat n.val) = dblB (UInt8.ofNat n.val) := by decide +kernel
  have := h ⟨c.toNat, c.toNat_lt⟩
  simpa using this
set_option maxHeartbeats 2000000 in
theorem refEncode4 (s : List UInt8) (closed : Bool) (w : World) (hs : s.length ≤ 1073741824) : Calls Tryz.prog 32 #[.string (B s), .int .i64 4, .bool closed] w fun e w' => e = .returned (.string (B (encL s 4 closed))) ∧ w = w' := by
  have HR := Lib.hid (show encL s 4 closed = sglL s ++ endL closed 39 from rfl)
  unfold endL at HR
  go_enter Tryz.func32, Tryz.ntmps32
  go_wp2
  rw [show ({ data := #[] } : ByteArray) = B [] from rfl, show ({ data := #[39] } : ByteArray) = B (sglK s 0) from rfl]
  go_loopw [7, 8] (fun t i w' => ∃ k : Nat, k ≤ s.length ∧ i = .int .i64 k ∧ t = .string (B (sglK s k)) ∧ w = w') (fun _ i _ => s.length - (intOf i).toNat)
  case atStart => exact ⟨0, by omega, rfl, rfl, rfl⟩
  case round =>
    obtain ⟨k, hk, rfl, rfl, rfl⟩ := hrel
    have hlen := sglK_len s k hk
    by_cases hlt : k < s.length
    · have h0 : (0 : Int) ≤ (k : Int) := by omega
      have h1 : (k : Int) < (s.length : Int) := by omega
      have h2 : (k : Int) + 1 ≤ (s.length : Int) := by omega
      have htd := take_drop1 hlt
      have HST := Lib.hid (sglK_step hlt)
      by_cases hc : s[k] = 39
      · have e1 := is_b (n := 39) rfl hc
        have hE : sglE s[k] = [39, 92, 39, 39] := by unfold sglE; rw [if_pos hc]
        rw [hE] at HST
        clear hc hE
        go_wp2
        go_roundw
        case rel => exact ⟨k + 1, by omega, by go_num, by rw [HST.out], by trivial⟩
        case measure => simp [intOf]; omega
      · have e1 := not_b (n := 39) rfl hc
        have hE : sglE s[k] = [s[k]] := by unfold sglE; rw [if_neg hc]
        rw [hE] at HST
        clear hc hE
        go_wp2
        go_roundw
        case rel => exact ⟨k + 1, by omega, by go_num, by rw [HST.out], by trivial⟩
        case measure => simp [intOf]; omega
    · have hk' : k = s.length := by omega
      subst hk'
      rw [sglK_all] at hlen
      have HA := Lib.hid (sglK_all s)
      rw [HA.out]
      clear hlt
      cases closed with
      | true =>
        go_wp2
        go_ret
        exact ⟨by rw [HR.out]; rfl, rfl⟩
      | false =>
        go_wp2
        go_ret
        exact ⟨by rw [HR.out]; simp, rfl⟩
set_option maxHeartbeats 2000000 in
theorem refEncode5 (s : List UInt8) (closed : Bool) (w : World) (hs : s.length ≤ 1073741824) : Calls Tryz.prog 32 #[.string (B s), .int .i64 5, .bool closed] w fun e w' => e = .returned (.string (B (encL s 5 closed))) ∧ w = w' := by
  have HR := Lib.hid (show encL s 5 closed = dblL s ++ endL closed 34 from rfl)
  unfold endL at HR
  have HI := Lib.hid fun c w => in_any c [36, 96, 34, 92] w (by simp)
  go_enter Tryz.func32, Tryz.ntmps32
  go_wp2
  rw [show ({ data := #[] } : ByteArray) = B [] from rfl, show ({ data := #[34] } : ByteArray) = B (dblK s 0) from rfl]
  go_loopw [7, 9] (fun t i w' => ∃ k : Nat, k ≤ s.length ∧ i = .int .i64 k ∧ t = .string (B (dblK s k)) ∧ w = w') (fun _ i _ => s.length - (intOf i).toNat)
  case atStart => exact ⟨0, by omega, rfl, rfl, rfl⟩
  case round =>
    obtain ⟨k, hk, rfl, rfl, rfl⟩ := hrel
    have hlen := dblK_len s k hk
    by_cases hlt : k < s.length
    · have h0 : (0 : Int) ≤ (k : Int) := by omega
      have h1 : (k : Int) < (s.length : Int) := by omega
      have h2 : (k : Int) + 1 ≤ (s.length : Int) := by omega
      have htd := take_drop1 hlt
      have HST := Lib.hid (dblK_step hlt)
      have HII := Lib.hid fun w => HI.out s[k] w
      rw [dbl_in] at HII
      cases hc : dblB s[k] with
      | true =>
        rw [hc] at HII
        have hE : dblE s[k] = [92, s[k]] := by unfold dblE; rw [if_pos hc]
        rw [hE] at HST
        clear hc hE
        go_wp2_with (go_at_call 48; refine (HII.out _).mono ?_; rintro e w' ⟨rfl, rfl⟩)
        go_roundw
        case rel => exact ⟨k + 1, by omega, by go_num, by rw [HST.out], by trivial⟩
        case measure => simp [intOf]; omega
      | false =>
        rw [hc] at HII
        have hE : dblE s[k] = [s[k]] := by unfold dblE; rw [if_neg (by rw [hc]; simp)]
        rw [hE] at HST
        clear hc hE
        go_wp2_with (go_at_call 48; refine (HII.out _).mono ?_; rintro e w' ⟨rfl, rfl⟩)
        go_roundw
        case rel => exact ⟨k + 1, by omega, by go_num, by rw [HST.out], by trivial⟩
        case measure => simp [intOf]; omega
    · have hk' : k = s.length := by omega
      subst hk'
      rw [dblK_all] at hlen
      have HA := Lib.hid (dblK_all s)
      rw [HA.out]
      clear hlt
      cases closed with
      | true =>
        go_wp2
        go_ret
        exact ⟨by rw [HR.out]; rfl, rfl⟩
      | false =>
        go_wp2
        go_ret
        exact ⟨by rw [HR.out]; simp, rfl⟩
set_option maxHeartbeats 4000000 in
theorem refEncode0 (s : List UInt8) (state : Int) (h4 : state ≠ 4) (h5 : state ≠ 5) (closed : Bool) (w : World) (hs : s.length ≤ 1073741824) : Calls Tryz.prog 32 #[.string (B s), .int .i64 state, .bool closed] w fun e w' => e = .returned (.string (B (plnL s))) ∧ w = w' := by
  have t4 : (state == 4) = false := by simpa using h4
  have t5 : (state == 5) = false := by simpa using h5
  clear h4 h5
  by_cases h0 : s = []
  · subst h0
    go_enter Tryz.func32, Tryz.ntmps32
    go_wp2
    go_ret
    exact ⟨rfl, rfl⟩
  have hl : 0 < s.length := List.length_pos_iff.2 h0
  have e0 : (s == []) = false := by simpa using h0
  have l0 : (0 : Int) < (s.length : Int) := by omega
  have hh := (headR_eq h0).symm
  unfold headR at hh
  have h1 : decide (s.length = 1) = ((s.length : Int) == 1) := by
    rw [Bool.eq_iff_iff, decide_eq_true_iff, beq_iff_eq]
    omega
  rw [h1, show s.getD 0 0 = s[0] by simp [List.getD, List.getElem?_eq_getElem hl]] at hh
  have HA := Lib.hid fun w => all_any s 6 w hs
  have HRR := Lib.hid fun w => refReserved_any s w hs
  have HC := Lib.hid fun w => refClass_any s[0] w
  have HSF := Lib.hid fun c w => refSafe_any c w
  have HK := Lib.hid (escK_all h0)
  have HK0 := Lib.hid (show escK s 0 = headL s by unfold escK; simp)
  clear h1 h0
  generalize allB s 6 = a at *
  generalize resB s = r at *
  generalize clsB s[0] = c at *
  generalize hb1 : ((s.length : Int) == 1) = b1 at *
  have HH := Lib.hid hh
  clear hh
  have hcase : (a = false ∧ r = false) ∨ ((a = true ∨ (a = false ∧ r = true)) ∧ (b1 = false ∨ (b1 = true ∧ (c != 6) = false) ∨ (b1 = true ∧ (c != 6) = true))) := by
    cases a <;> cases r <;> cases b1 <;> cases (c != 6) <;> simp
  rcases hcase with ⟨rfl, rfl⟩ | ⟨rfl | ⟨rfl, rfl⟩, rfl | ⟨rfl, hc6⟩ | ⟨rfl, hc6⟩⟩
  all_goals
    go_enter Tryz.func32, Tryz.ntmps32
    go_wp2_with (first | (go_at_call 49; refine (HA.out _).mono ?_; rintro e w' ⟨rfl, rfl⟩) | (go_at_call 50; refine (HRR.out _).mono ?_; rintro e w' ⟨rfl, rfl⟩) | (go_at_call 47; refine (HC.out _).mono ?_; rintro e w' ⟨rfl, rfl⟩))
    try rw [show ({ data := #[] } : ByteArray) = B [] from rfl]
    try rw [show ({ data := #[92] } : ByteArray) = B [92] from rfl]
    go_loopw [7, 10] (fun t i w' => ∃ k : Nat, k ≤ s.length ∧ i = .int .i64 k ∧ t = .string (B (escK s k)) ∧ w = w') (fun _ i _ => s.length - (intOf i).toNat)
    case atStart => exact ⟨0, by omega, rfl, by rw [HK0.out, HH.out]; simp [*], rfl⟩
    case round =>
      clear hb1 HH HA HRR HC HK0
      obtain ⟨k, hk, rfl, rfl, rfl⟩ := hrel
      have hlen := escK_len s k hk
      by_cases hlt : k < s.length
      · have h0 : (0 : Int) ≤ (k : Int) := by omega
        have h1 : (k : Int) < (s.length : Int) := by omega
        have h2 : (k : Int) + 1 ≤ (s.length : Int) := by omega
        have htd := take_drop1 hlt
        have HA := Lib.hid (escK_A hlt)
        have HB := Lib.hid (escK_B hlt)
        have HC := Lib.hid (escK_C hlt)
        have HS := Lib.hid fun w => HSF.out s[k] w
        generalize safeB s[k] = sf at *
        go_wp2_with (go_at_call 31; refine (HS.out _).mono ?_; rintro e w' ⟨rfl, rfl⟩)
        all_goals
          go_roundw
          case rel => exact ⟨k + 1, by omega, by go_num, by first | exact congrArg (fun l => Value.string (B l)) (HA.out (by simp [*])).symm | exact congrArg (fun l => Value.string (B l)) (HB.out (by simp [*]) (by simp [*])).symm | exact congrArg (fun l => Value.string (B l)) (HC.out (by simp [*]) (by simp [*])).symm, by trivial⟩
          case measure => simp [intOf]; omega
      · have hk' : k = s.length := by omega
        subst hk'
        rw [HK.out]
        clear hlt hlen
        go_wp2
        go_ret
        exact ⟨rfl, rfl⟩
theorem refEncode_any (s : List UInt8) (state : Int) (closed : Bool) (w : World) (hs : s.length ≤ 1073741824) : Calls Tryz.prog 32 #[.string (B s), .int .i64 state, .bool closed] w fun e w' => e = .returned (.string (B (encL s state closed))) ∧ w = w' := by
  by_cases h4 : state = 4
  · subst h4; exact refEncode4 s closed w hs
  by_cases h5 : state = 5
  · subst h5; exact refEncode5 s closed w hs
  have h := refEncode0 s state h4 h5 closed w hs
  unfold encL
  rw [if_neg h4, if_neg h5]
  exact h
end Go.Proofs.YtadaeecokkokjaaGreatDoor.Quo
/-
  The walks of layer 17's reference, on: the shortest form; its law's opening. Conditions: texts of at most 2^30 bytes; the library's variable MaxLen holds some number.
-/
namespace Go.Proofs.YtadaeecokkokjaaGreatDoor.Quo
open Go.ChangeShapes Go.WideShapes Go.Deep Go.RowKit Cls Bd Pat
set_option maxRecDepth 100000
set_option maxHeartbeats 2000000 in
theorem refShortest_any (s : List UInt8) (w : World) (hs : s.length ≤ 1073741824) : Calls Tryz.prog 20 #[.string (B s)] w fun e w' => e = .returned (.string (B (shortL s))) ∧ w = w' := by
  have HE := Lib.hid fun st W => refEncode_any s st true W hs
  have HL := Lib.hid (show shortL s = shorter (shorter (encL s 0 true) (encL s 4 true)) (encL s 5 true) from rfl)
  generalize shortL s = r at *
  go_enter Tryz.func20, Tryz.ntmps20
  go_wp2_with (go_at_call 32; refine (HE.out _ _).mono ?_; rintro e w' ⟨rfl, rfl⟩)
  go_loopw [3, 4, 5] (fun t i _ w' => w = w' ∧ ((i = .int .i64 4 ∧ t = .string (B (encL s 0 true))) ∨ (i = .int .i64 5 ∧ t = .string (B (shorter (encL s 0 true) (encL s 4 true)))) ∨ (i = .int .i64 6 ∧ t = .string (B r)))) (fun _ i _ _ => 6 - (intOf i).toNat)
  case atStart => exact ⟨rfl, .inl ⟨rfl, rfl⟩⟩
  case round =>
    obtain ⟨rfl, ⟨rfl, rfl⟩ | ⟨rfl, rfl⟩ | ⟨rfl, rfl⟩⟩ := hrel
    · have H1 := Lib.hid (show ∀ x, x = shorter (encL s 0 true) (encL s 4 true) → Value.string (B x) = .string (B (shorter (encL s 0 true) (encL s 4 true))) from fun x h => by rw [h])
      have HEE := Lib.hid (HE.out 4)
      generalize hx : shorter (encL s 0 true) (encL s 4 true) = x at *
      have HX := Lib.hid hx
      clear hx
      generalize encL s 0 true = a at *
      generalize encL s 4 true = b at *
      go_wp2_with (go_at_call 32; refine (HEE.out _).mono ?_; rintro e w' ⟨rfl, rfl⟩)
      all_goals
        go_roundw
        case rel => exact ⟨by trivial, .inr (.inl ⟨rfl, H1.out _ (by rw [← HX.out]; unfold shorter; first | rw [if_neg (by omega)] | rw [if_pos (by omega)])⟩)⟩
        case measure => simp [intOf]
    · have HEE := Lib.hid (HE.out 5)
      generalize shorter (encL s 0 true) (encL s 4 true) = a at *
      generalize encL s 5 true = b at *
      have H1 := Lib.hid (show ∀ x, x = shorter a b → Value.string (B x) = .string (B r) from fun x h => by rw [h, HL.out])
      go_wp2_with (go_at_call 32; refine (HEE.out _).mono ?_; rintro e w' ⟨rfl, rfl⟩)
      all_goals
        go_roundw
        case rel => exact ⟨by trivial, .inr (.inr ⟨rfl, H1.out _ (by unfold shorter; first | rw [if_neg (by omega)] | rw [if_pos (by omega)])⟩)⟩
        case measure => simp [intOf]
    · go_wp2
      go_ret
      exact ⟨rfl, rfl⟩
end Go.Proofs.YtadaeecokkokjaaGreatDoor.Quo
