/-
  Paths (layer 18), plainly: what stands between strokes, names, paths, cleaned texts. No program in sight.
-/
import Derived.Test.YtnecmpgcjgkheaaIter
import Derived.Test.YtnecmpgcjgkheaaSl
import Derived.HandedShaped
import Derived.Shelf.Vars
import Derived.Lib.Strings
import Derived.Lib.IndexMore
import Derived.Lib.IndexLaws
import Derived.Lib.IndexBytes
import Derived.Lib.Join
set_option linter.unusedSimpArgs false
set_option linter.unusedVariables false
namespace Go.Proofs.Ytnecmpgcjgkheaa.Pat
open Go.ChangeShapes Go.WideShapes Go.Deep Go.RowKit
/-- The library's variable MaxLen holds some number. -/
def MaxL (w : World) : Prop := ∃ m, w.cell? ⟨0, 0, none⟩ = some (.int .i64 m)
theorem MaxL.lt {w : World} (h : MaxL w) : 0 < w.heap.size := by obtain ⟨m, hm⟩ := h; exact World.block_lt_of_cell? w _ hm
theorem MaxL.below {w W : World} (h : MaxL w) (hb : Below w.heap.size w W) : MaxL W := by
  have := h.lt
  obtain ⟨m, hm⟩ := h
  exact ⟨m, (hb.cell (p := ⟨0, 0, none⟩) this).trans hm⟩
theorem MaxL.keeps {F : Nat → Prop} {w W : World} (h : MaxL w) (hk : Keeps F w W) (hF : ¬ F 0) : MaxL W := by
  have := h.lt
  obtain ⟨m, hm⟩ := h
  exact ⟨m, (World.cell?_of_block (w := w) (hk.block 0 this hF)).trans hm⟩
theorem MaxL.keepG {G : Nat → Prop} {w W : World} (h : MaxL w) (hk : KeepG G w W) (h0 : G 0) : MaxL W := by
  obtain ⟨m, hm⟩ := h
  exact ⟨m, (hk.cell h0).trans hm⟩
end Go.Proofs.Ytnecmpgcjgkheaa.Pat
namespace Go.Proofs.Ytnecmpgcjgkheaa
open Go.ChangeShapes Go.WideShapes Go.ChangeAt Go.RowKit
set_option maxRecDepth 100000
theorem maxL_of {w : World} (h : w.ShapedOpen Try.prog) : Pat.MaxL w :=
  cell_of_shapedOpen_int (t := 3) (zero := #[.int .i64 0]) h (of_decide_eq_true (by kernel_rfl)) (by kernel_rfl) rfl (by kernel_rfl) (by kernel_rfl) Try.underlying3
end Go.Proofs.Ytnecmpgcjgkheaa
namespace Go.Proofs.Ytnecmpgcjgkheaa.Fil
/-- What stands between a text's strokes. -/
def partsL : List UInt8 → List (List UInt8)
  | [] => [[]]
  | c :: r => if c = 47 then [] :: partsL r else
    match partsL r with
    | p :: ps => (c :: p) :: ps
    | [] => [[c]]
theorem partsL_ne : ∀ s, partsL s ≠ []
  | [] => by simp [partsL]
  | c :: r => by
    unfold partsL
    split
    · simp
    · split <;> simp
/-- A text ahead of the first part. -/
def pre (w : List UInt8) : List (List UInt8) → List (List UInt8)
  | p :: ps => (w ++ p) :: ps
  | [] => []
theorem pre_nil (ps : List (List UInt8)) : pre [] ps = ps := by cases ps <;> rfl
theorem pre_len (w : List UInt8) (ps : List (List UInt8)) : (pre w ps).length = ps.length := by cases ps <;> rfl
theorem partsL_cons {c : UInt8} (h : c ≠ 47) (r w : List UInt8) : pre w (partsL (c :: r)) = pre (w ++ [c]) (partsL r) := by
  conv => lhs; unfold partsL
  rw [if_neg h]
  cases hp : partsL r with
  | nil => exact absurd hp (partsL_ne r)
  | cons p ps => simp [pre]
theorem partsL_stroke (r w : List UInt8) : pre w (partsL (47 :: r)) = w :: partsL r := by
  conv => lhs; unfold partsL
  simp [pre]
theorem partsL_len : ∀ s, (partsL s).length ≤ s.length + 1
  | [] => by simp [partsL]
  | c :: r => by
    have := partsL_len r
    unfold partsL
    split
    · simp; omega
    · split
      · rename_i p ps hp; rw [hp] at this; simp at this ⊢; omega
      · simp
/-- A text without a stroke is its own part. -/
theorem partsL_one : ∀ {s : List UInt8}, 47 ∉ s → partsL s = [s]
  | [], _ => rfl
  | c :: r, h => by
    simp only [List.mem_cons, not_or] at h
    unfold partsL
    rw [if_neg (fun e => h.1 e.symm), partsL_one h.2]
theorem partsL_app : ∀ (s t : List UInt8), 47 ∉ s → partsL (s ++ 47 :: t) = s :: partsL t
  | [], t, _ => by simp [partsL]
  | c :: r, t, h => by
    simp only [List.mem_cons, not_or] at h
    rw [List.cons_append]
    conv => lhs; unfold partsL
    rw [if_neg (fun e => h.1 e.symm), partsL_app r t h.2]
theorem partsL_mem : ∀ {s : List UInt8} {p : List UInt8}, p ∈ partsL s → 47 ∉ p ∧ p.length ≤ s.length
  | [], p, h => by simp [partsL] at h; subst h; simp
  | c :: r, p, h => by
    unfold partsL at h
    split at h
    · rcases List.mem_cons.1 h with rfl | h
      · simp
      · have := partsL_mem h; exact ⟨this.1, by simp; omega⟩
    · rename_i hc
      split at h
      · rename_i q qs hp
        have hq := partsL_mem (s := r) (p := q) (by rw [hp]; simp)
        rcases List.mem_cons.1 h with rfl | h
        · exact ⟨by simp only [List.mem_cons, not_or]; exact ⟨fun e => hc e.symm, hq.1⟩, by simp; omega⟩
        · have := partsL_mem (s := r) (p := p) (by rw [hp]; simp [h]); exact ⟨this.1, by simp; omega⟩
      · simp at h; subst h; simp only [List.mem_singleton]; exact ⟨fun e => hc e.symm, by simp⟩
theorem partsL_hd (c : UInt8) (r : List UInt8) : partsL (c :: r) = if c = 47 then [] :: partsL r else match partsL r with
    | p :: ps => (c :: p) :: ps
    | [] => [[c]] := rfl
theorem partsL_snoc : ∀ (s t : List UInt8), partsL (s ++ 47 :: t) = partsL s ++ partsL t
  | [], t => by rw [List.nil_append, partsL_hd, if_pos rfl]; rfl
  | c :: r, t => by
    rw [List.cons_append, partsL_hd, partsL_hd, partsL_snoc r t]
    split
    · rfl
    · cases hp : partsL r with
      | nil => exact absurd hp (partsL_ne r)
      | cons p ps => rfl
/-- How strings.Cut walks through the parts. -/
theorem parts_cut (s : List UInt8) : (Lib.cut s [47]).2.2 = false ∧ (Lib.cut s [47]).1 = s ∧ partsL s = [s] ∨ (Lib.cut s [47]).2.2 = true ∧ partsL s = (Lib.cut s [47]).1 :: partsL (Lib.cut s [47]).2.1 ∧ (Lib.cut s [47]).2.1.length < s.length := by
  unfold Lib.cut
  rw [Lib.index_one]
  have hge := Lib.indexByte_ge s 47
  by_cases h : 0 ≤ Lib.indexByte s 47
  · right
    rw [if_pos h]
    obtain ⟨i, hi⟩ : ∃ i : Nat, Lib.indexByte s 47 = i := ⟨(Lib.indexByte s 47).toNat, by omega⟩
    obtain ⟨h1, h2⟩ := Lib.indexByte_some hi
    obtain ⟨h3, h4⟩ := List.getElem?_eq_some_iff.1 h1
    rw [hi]
    simp only [Int.toNat_natCast, List.length_singleton]
    refine ⟨by trivial, ?_, by rw [List.length_drop]; omega⟩
    have e : s = s.take i ++ 47 :: s.drop (i + 1) := by
      conv => lhs; rw [← List.take_append_drop i s, List.drop_eq_getElem_cons h3, h4]
    conv => lhs; rw [e]
    refine partsL_app _ _ fun hm => ?_
    obtain ⟨k, hk, hk2⟩ := List.mem_iff_getElem.1 hm
    rw [List.length_take] at hk
    rw [List.getElem_take] at hk2
    exact h2 k (by omega) (by rw [List.getElem?_eq_getElem (by omega), hk2])
  · left
    rw [if_neg h]
    refine ⟨rfl, rfl, partsL_one fun hm => ?_⟩
    obtain ⟨k, hk⟩ := List.mem_iff_getElem?.1 hm
    exact Lib.indexByte_none (show Lib.indexByte s 47 = -1 by omega) k hk
/-- Whether a text is a name. -/
def nameB (s : List UInt8) : Bool := s != [] && s != [46] && s != [46, 46] && decide (s.length ≤ 255) && !s.contains 47 && !s.contains 0
/-- Whether a text is a path. -/
def pathB (s : List UInt8) : Bool := s == [47] || (s.head? == some 47 && (partsL s.tail).all nameB)
/-- One part, behind the names so far. -/
def step (ns : List (List UInt8)) (p : List UInt8) : List (List UInt8) := if p = [46, 46] then ns.dropLast else if p = [] ∨ p = [46] then ns else ns ++ [p]
def startL (dir text : List UInt8) : List UInt8 := if text.head? = some 47 then text else dir ++ 47 :: text
theorem startL_yes {dir text : List UInt8} (h : text.head? = some 47) : startL dir text = text := by unfold startL; rw [if_pos h]
theorem startL_no {dir text : List UInt8} (h : text.head? ≠ some 47) : startL dir text = dir ++ 47 :: text := by unfold startL; rw [if_neg h]
/-- The names of a cleaned text. -/
def namesL (dir text : List UInt8) : List (List UInt8) := (partsL (startL dir text)).foldl step []
def joinN (ns : List (List UInt8)) : List UInt8 := ns.flatMap fun n => 47 :: n
def cleanL (dir text : List UInt8) : List UInt8 := if namesL dir text = [] then [47] else joinN (namesL dir text)
theorem step_ok {ns : List (List UInt8)} {p : List UInt8} (hp : 47 ∉ p) (h : ∀ n ∈ ns, 47 ∉ n ∧ n ≠ [] ∧ n ≠ [46] ∧ n ≠ [46, 46]) : ∀ n ∈ step ns p, 47 ∉ n ∧ n ≠ [] ∧ n ≠ [46] ∧ n ≠ [46, 46] := by
  intro n hn
  unfold step at hn
  split at hn
  · exact h n (List.dropLast_subset _ hn)
  · rename_i h1
    split at hn
    · exact h n hn
    · rename_i h2
      rcases List.mem_append.1 hn with hn | hn
      · exact h n hn
      · simp at hn
        subst hn
        exact ⟨hp, fun e => h2 (.inl e), fun e => h2 (.inr e), h1⟩
theorem fold_ok : ∀ (ps ns : List (List UInt8)), (∀ p ∈ ps, 47 ∉ p) → (∀ n ∈ ns, 47 ∉ n ∧ n ≠ [] ∧ n ≠ [46] ∧ n ≠ [46, 46]) → ∀ n ∈ ps.foldl step ns, 47 ∉ n ∧ n ≠ [] ∧ n ≠ [46] ∧ n ≠ [46, 46]
  | [], _, _, h => h
  | p :: ps, ns, hp, h => fold_ok ps _ (fun q hq => hp q (by simp [hq])) (step_ok (hp p (by simp)) h)
theorem names_ok (dir text : List UInt8) : ∀ n ∈ namesL dir text, 47 ∉ n ∧ n ≠ [] ∧ n ≠ [46] ∧ n ≠ [46, 46] := fold_ok _ [] (fun _ hp => (partsL_mem hp).1) (by simp)
theorem parts_join : ∀ {ns : List (List UInt8)}, ns ≠ [] → (∀ n ∈ ns, 47 ∉ n) → partsL (joinN ns) = [] :: ns
  | [], h, _ => absurd rfl h
  | [n], _, hn => by
    have := partsL_one (hn n (by simp))
    simp [joinN, partsL, this]
  | n :: m :: r, _, hn => by
    have ih := parts_join (ns := m :: r) (by simp) fun k hk => hn k (by simp [hk])
    have e : joinN (n :: m :: r) = 47 :: (n ++ joinN (m :: r)) := by simp [joinN]
    have e2 : joinN (m :: r) = 47 :: (m ++ joinN r) := by simp [joinN]
    rw [e]
    conv => lhs; unfold partsL
    rw [if_pos rfl]
    rw [e2] at ih ⊢
    rw [partsL_app n _ (hn n (by simp))]
    unfold partsL at ih
    rw [if_pos rfl] at ih
    rw [(List.cons.inj ih).2]
theorem fold_names : ∀ (qs ns : List (List UInt8)), (∀ n ∈ qs, 47 ∉ n ∧ n ≠ [] ∧ n ≠ [46] ∧ n ≠ [46, 46]) → qs.foldl step ns = ns ++ qs
  | [], ns, _ => by simp
  | q :: qs, ns, h => by
    obtain ⟨_, h1, h2, h3⟩ := h q (by simp)
    rw [List.foldl_cons, fold_names qs _ fun n hn => h n (by simp [hn])]
    unfold step
    rw [if_neg h3, if_neg (by simp [h1, h2])]
    simp
/-- The parts of a cleaned text bring its names again. -/
theorem fold_clean (dir text : List UInt8) : (partsL (cleanL dir text)).foldl step [] = namesL dir text := by
  unfold cleanL
  split
  · rename_i h; rw [h]; decide
  · rename_i h
    rw [parts_join h fun n hn => (names_ok dir text n hn).1]
    rw [List.foldl_cons, show step [] [] = [] from rfl, fold_names _ _ (names_ok dir text)]
    simp
theorem clean_more {dir text more : List UInt8} (ht : text ≠ []) (hm : more.head? ≠ some 47) : cleanL dir (text ++ 47 :: more) = cleanL (cleanL dir text) more := by
  have e : namesL dir (text ++ 47 :: more) = namesL (cleanL dir text) more := by
    have h1 : startL dir (text ++ 47 :: more) = startL dir text ++ 47 :: more := by
      have hh : (text ++ 47 :: more).head? = text.head? := by
        cases text with
        | nil => exact absurd rfl ht
        | cons c r => rfl
      by_cases hc : text.head? = some 47
      · rw [startL_yes (hh.trans hc), startL_yes hc]
      · rw [startL_no (fun e => hc (hh.symm.trans e)), startL_no hc]; simp
    have h2 : startL (cleanL dir text) more = cleanL dir text ++ 47 :: more := by unfold startL; rw [if_neg hm]
    unfold namesL
    rw [h1, h2, partsL_snoc, partsL_snoc, List.foldl_append, List.foldl_append, fold_clean]
    rfl
  have q : ∀ d t, cleanL d t = if namesL d t = [] then [47] else joinN (namesL d t) := fun _ _ => rfl
  rw [q, q (cleanL dir text), e]
end Go.Proofs.Ytnecmpgcjgkheaa.Fil
