/-
  Patterns of paths (layer 27), plainly: components, and what they lead to. No program in sight.
-/
import Derived.Test.YtnecmpgcjgkheaaPat5
import Derived.Test.YtnecmpgcjgkheaaPat22
import Derived.Test.YtnecmpgcjgkheaaPat21
import Derived.Lib.SlicesCompact
set_option linter.unusedSimpArgs false
set_option linter.unusedVariables false
namespace Go.Proofs.Ytnecmpgcjgkheaa.Glob
open Go.ChangeShapes Go.WideShapes Go.Deep Go.RowKit Fil Pat
/-- The components of a pattern. -/
def partsG : List UInt8 → List (List UInt8)
  | [] => [[]]
  | [c] => if c = 47 then [[], []] else [[c]]
  | c :: d :: r => if c = 92 then (if d = 47 then [] :: partsG r else pre [c, d] (partsG r)) else if c = 47 then [] :: partsG (d :: r) else pre [c] (partsG (d :: r))
theorem partsG_ne : ∀ s, partsG s ≠ []
  | [] => by simp [partsG]
  | [c] => by unfold partsG; split <;> simp
  | c :: d :: r => by
    have h1 := partsG_ne r
    have h2 := partsG_ne (d :: r)
    unfold partsG
    split
    · split
      · simp
      · intro e; rw [← List.length_eq_zero_iff, pre_len] at e; exact h1 (List.length_eq_zero_iff.1 e)
    · split
      · simp
      · intro e; rw [← List.length_eq_zero_iff, pre_len] at e; exact h2 (List.length_eq_zero_iff.1 e)
theorem pre_pre (a b : List UInt8) (ps : List (List UInt8)) : pre a (pre b ps) = pre (a ++ b) ps := by cases ps <;> simp [pre]
/-- The four steps of the walk over a pattern. -/
theorem pg_esc {p h : List UInt8} {i : Nat} {d : UInt8} (h1 : p[i]? = some 92) (h2 : p[i + 1]? = some d) (h3 : d ≠ 47) : pre h (partsG (p.drop i)) = pre (h ++ [92, d]) (partsG (p.drop (i + 2))) := by
  obtain ⟨l1, e1⟩ := List.getElem?_eq_some_iff.1 h1
  obtain ⟨l2, e2⟩ := List.getElem?_eq_some_iff.1 h2
  rw [List.drop_eq_getElem_cons l1, List.drop_eq_getElem_cons l2, e1, e2, partsG, if_pos rfl, if_neg h3, pre_pre]
theorem pg_esc47 {p h : List UInt8} {i : Nat} (h1 : p[i]? = some 92) (h2 : p[i + 1]? = some 47) : pre h (partsG (p.drop i)) = h :: pre [] (partsG (p.drop (i + 2))) := by
  obtain ⟨l1, e1⟩ := List.getElem?_eq_some_iff.1 h1
  obtain ⟨l2, e2⟩ := List.getElem?_eq_some_iff.1 h2
  rw [List.drop_eq_getElem_cons l1, List.drop_eq_getElem_cons l2, e1, e2, partsG, if_pos rfl, if_pos rfl, pre_nil]
  simp [pre]
theorem pg_47 {p h : List UInt8} {i : Nat} (h1 : p[i]? = some 47) : pre h (partsG (p.drop i)) = h :: pre [] (partsG (p.drop (i + 1))) := by
  obtain ⟨l1, e1⟩ := List.getElem?_eq_some_iff.1 h1
  rw [List.drop_eq_getElem_cons l1, e1, pre_nil]
  cases hd : p.drop (i + 1) with
  | nil => simp [partsG, pre]
  | cons d r => rw [partsG, if_neg (by decide), if_pos rfl]; simp [pre]
theorem pg_byte {p h : List UInt8} {i : Nat} {c : UInt8} (h1 : p[i]? = some c) (h2 : c ≠ 47) (h3 : c = 92 → p[i + 1]? = none) : pre h (partsG (p.drop i)) = pre (h ++ [c]) (partsG (p.drop (i + 1))) := by
  obtain ⟨l1, e1⟩ := List.getElem?_eq_some_iff.1 h1
  rw [List.drop_eq_getElem_cons l1, e1]
  cases hd : p.drop (i + 1) with
  | nil => rw [show partsG [c] = [[c]] by unfold partsG; rw [if_neg h2]]; simp [pre, partsG]
  | cons d r =>
    have h4 : c ≠ 92 := fun e => by
      have := h3 e
      rw [List.getElem?_eq_none_iff] at this
      rw [List.drop_eq_nil_of_le this] at hd
      cases hd
    rw [partsG, if_neg h4, if_neg h2, pre_pre]
theorem pg_end {p h : List UInt8} {i : Nat} (hi : p.length ≤ i) : pre h (partsG (p.drop i)) = [h] := by
  rw [List.drop_eq_nil_of_le hi]; simp [partsG, pre]
theorem partsG_len : ∀ s, (partsG s).length ≤ s.length + 1 ∧ ∀ q ∈ partsG s, q.length ≤ s.length
  | [] => by simp [partsG]
  | [c] => by unfold partsG; split <;> simp
  | c :: d :: r => by
    obtain ⟨h1, h2⟩ := partsG_len r
    obtain ⟨h3, h4⟩ := partsG_len (d :: r)
    have hp : ∀ (w : List UInt8) (ps : List (List UInt8)) (n : Nat), (∀ q ∈ ps, q.length ≤ n) → ∀ q ∈ pre w ps, q.length ≤ w.length + n := by
      intro w ps n hh q hq
      cases ps with
      | nil => cases hq
      | cons a b =>
        simp only [pre, List.mem_cons] at hq
        rcases hq with rfl | hq
        · rw [List.length_append]; have := hh a (by simp); omega
        · have := hh q (by simp [hq]); omega
    unfold partsG
    split
    · split
      · refine ⟨by simp; omega, fun q hq => ?_⟩
        rcases List.mem_cons.1 hq with rfl | hq
        · simp
        · have := h2 q hq; simp; omega
      · refine ⟨by rw [pre_len]; simp; omega, fun q hq => ?_⟩
        have := hp _ _ _ h2 q hq
        simp at this ⊢; omega
    · split
      · refine ⟨by simp at h3 ⊢; omega, fun q hq => ?_⟩
        rcases List.mem_cons.1 hq with rfl | hq
        · simp
        · have := h4 q hq; simp at this ⊢; omega
      · refine ⟨by rw [pre_len]; simp at h3 ⊢; omega, fun q hq => ?_⟩
        have := hp _ _ _ h4 q hq
        simp at this ⊢; omega
/-- The kind of a text; 0: there is none, or it is no path. -/
def kindP (x : List Fl) (p : List UInt8) : Int := if pathB p = true then kindL x p else 0
/-- May a name be told by a component? -/
def mayG (part a : List UInt8) : Bool := (!(a.head? == some 46) || part.head? == some 46) && gm (parse part) a
/-- The names to which a component leads from a directory. -/
def nameG (x : List Fl) (dir part : List UInt8) : List (List UInt8) := if litB (parse part) = true then [litT (parse part)] else (liL x dir).filter (mayG part)
/-- What components lead to, from a text and a directory on. -/
def walkG (x : List Fl) : List (List UInt8) → List UInt8 → List UInt8 → List (List UInt8)
  | [], _, _ => []
  | p :: ps, text, dir => if p = [] then (if ps = [] then [text] else walkG x ps (text ++ [47]) dir) else
    (nameG x dir p).flatMap fun a => if kindP x (cleanL dir a) = 0 then [] else if ps = [] then [text ++ a] else if kindP x (cleanL dir a) = 1 then walkG x ps (text ++ a ++ [47]) (cleanL dir a) else []
def globG (x : List Fl) (dir p : List UInt8) : List (List UInt8) := if p = [] ∨ pathB dir = false then [] else walkG x (partsG p) [] (if (partsG p).head? = some [] then [47] else dir)
/-- All of that, rising. -/
def pathsG (x : List Fl) (dir p : List UInt8) : List (List UInt8) := (globG x dir p).foldl putL []
theorem pathsG_rise (x : List Fl) (dir p : List UInt8) : Rise (pathsG x dir p) := fold_put_rise _ _ List.Pairwise.nil
theorem pathsG_mem (x : List Fl) (dir p a : List UInt8) : a ∈ pathsG x dir p ↔ a ∈ globG x dir p := by unfold pathsG; rw [fold_put_mem]; simp
end Go.Proofs.Ytnecmpgcjgkheaa.Glob
