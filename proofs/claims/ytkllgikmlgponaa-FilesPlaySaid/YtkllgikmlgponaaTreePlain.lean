/-
  Rows of files (layer 18), plainly: what a row has, made and removed, as the reference says. No program in sight.
-/
import Derived.Test.YtkllgikmlgponaaFil6
import Derived.Test.YtkllgikmlgponaaFil3
namespace Go.Proofs.Ytkllgikmlgponaa.Fil
open Go.ChangeShapes Go.WideShapes Go.Deep Go.RowKit
/-- A file: its path and its kind. -/
structure Fl where
  path : List UInt8
  kind : Int
/-- The kind of a path, as the reference tells; 0: there is none. -/
def kindL (x : List Fl) (p : List UInt8) : Int := if p = [47] then 1 else match x.find? (fun f => f.path == p) with
  | some f => f.kind
  | none => 0
/-- The text of some names. -/
def txt (ks : List (List UInt8)) : List UInt8 := if ks = [] then [47] else joinN ks
/-- The names of a path. -/
def nms (p : List UInt8) : List (List UInt8) := if p = [47] then [] else partsL p.tail
theorem join_parts : ∀ t, joinN (partsL t) = 47 :: t
  | [] => rfl
  | c :: r => by
    have ih := join_parts r
    rw [partsL_hd]
    split
    · rename_i h; subst h
      rw [show [] :: partsL r = [[]] ++ partsL r from rfl, joinN_app, ih]; rfl
    · cases hp : partsL r with
      | nil => exact absurd hp (partsL_ne r)
      | cons p ps =>
        rw [hp, show p :: ps = [p] ++ ps from rfl, joinN_app] at ih
        show joinN ([c :: p] ++ ps) = _
        rw [joinN_app]
        have e : joinN [c :: p] = 47 :: c :: p := by simp [joinN]
        have e2 : joinN [p] = 47 :: p := by simp [joinN]
        rw [e]
        rw [e2] at ih
        simp at ih ⊢
        exact ih
theorem nms_ok {p : List UInt8} (h : pathB p = true) : txt (nms p) = p ∧ ∀ n ∈ nms p, nameB n = true := by
  unfold nms
  by_cases h1 : p = [47]
  · rw [if_pos h1]; exact ⟨by rw [h1]; rfl, by simp⟩
  · rw [if_neg h1]
    unfold pathB at h
    rw [show (p == [47]) = false by rw [beq_eq_false_iff_ne]; exact h1, Bool.false_or, Bool.and_eq_true] at h
    obtain ⟨t, rfl⟩ : ∃ t, p = 47 :: t := by
      cases p with
      | nil => cases h.1
      | cons c r => exact ⟨r, by have := h.1; simp at this; rw [this]⟩
    refine ⟨?_, List.all_eq_true.1 h.2⟩
    unfold txt
    rw [if_neg (partsL_ne _)]
    exact join_parts t
theorem name_no {n : List UInt8} (h : nameB n = true) : 47 ∉ n ∧ n ≠ [] ∧ n.length ≤ 255 := by
  unfold nameB at h
  simp at h
  obtain ⟨⟨⟨⟨⟨h1, h2⟩, h3⟩, h4⟩, h5⟩, h6⟩ := h
  exact ⟨h5, h1, h4⟩
theorem nms_txt {ks : List (List UInt8)} (h : ∀ n ∈ ks, nameB n = true) : nms (txt ks) = ks := by
  unfold txt
  by_cases h1 : ks = []
  · rw [if_pos h1, h1]; rfl
  · rw [if_neg h1]
    have hp := parts_join h1 fun n hn => (name_no (h n hn)).1
    cases ks with
    | nil => exact absurd rfl h1
    | cons k r =>
      have e : joinN (k :: r) = 47 :: (k ++ joinN r) := by simp [joinN]
      rw [e] at hp ⊢
      rw [partsL_hd, if_pos rfl] at hp
      unfold nms
      rw [if_neg, List.tail_cons, (List.cons.inj hp).2]
      intro e2
      have := (List.cons.inj e2).2
      have hk := (name_no (h k (by simp))).2.1
      exact hk (List.append_eq_nil_iff.1 this).1
theorem txt_path {ks : List (List UInt8)} (h : ∀ n ∈ ks, nameB n = true) : pathB (txt ks) = true := by
  have e := nms_txt h
  unfold pathB
  rw [Bool.or_eq_true, Bool.and_eq_true]
  by_cases h1 : ks = []
  · left; rw [h1]; rfl
  · right
    have h2 : txt ks ≠ [47] := fun q => by rw [q] at e; exact h1 (e.symm.trans rfl)
    unfold nms at e
    rw [if_neg h2] at e
    refine ⟨?_, by rw [e]; exact List.all_eq_true.2 h⟩
    unfold txt
    rw [if_neg h1]
    cases ks with
    | nil => exact absurd rfl h1
    | cons k r => simp [joinN]
theorem txt_inj {ks js : List (List UInt8)} (h : ∀ n ∈ ks, nameB n = true) (h' : ∀ n ∈ js, nameB n = true) (e : txt ks = txt js) : ks = js := by
  rw [← nms_txt h, ← nms_txt h', e]
/-- The kind of a file, by its names. -/
def kd (x : List Fl) (ks : List (List UInt8)) : Option Int := if ks = [] then some 1 else if ks.all nameB = true then (x.find? fun f => f.path == txt ks).map Fl.kind else none
theorem kd_nil (x : List Fl) : kd x [] = some 1 := rfl
theorem kd_names {x : List Fl} {ks : List (List UInt8)} (h : (kd x ks).isSome = true) : ∀ n ∈ ks, nameB n = true := by
  unfold kd at h
  by_cases h1 : ks = []
  · rw [h1]; simp
  · rw [if_neg h1] at h
    by_cases h2 : ks.all nameB = true
    · exact List.all_eq_true.1 h2
    · rw [if_neg h2] at h; cases h
/-- A row of files as it may be. -/
structure RowF (x : List Fl) : Prop where
  p : ∀ f ∈ x, pathB f.path = true ∧ f.path ≠ [47] ∧ 1 ≤ f.kind ∧ f.kind ≤ 3
  d : x.Pairwise fun a b => a.path ≠ b.path
  u : ∀ ks a, (kd x (ks ++ [a])).isSome = true → kd x ks = some 1
theorem kd_kind {x : List Fl} (h : RowF x) {p : List UInt8} (hp : pathB p = true) : kindL x p = (kd x (nms p)).getD 0 := by
  obtain ⟨h1, h2⟩ := nms_ok hp
  unfold kindL kd
  by_cases e : p = [47]
  · rw [if_pos e, e]; rfl
  · have hn : nms p ≠ [] := fun q => by rw [q] at h1; exact e h1.symm
    rw [if_neg e, if_neg hn, if_pos (List.all_eq_true.2 h2), h1]
    cases x.find? fun f => f.path == p <;> rfl
theorem kd_pos {x : List Fl} (h : RowF x) {ks : List (List UInt8)} {k : Int} (hk : kd x ks = some k) : 1 ≤ k ∧ k ≤ 3 := by
  unfold kd at hk
  split at hk
  · cases hk; omega
  · split at hk
    · cases hf : x.find? (fun f => f.path == txt ks) with
      | none => rw [hf] at hk; cases hk
      | some f =>
        rw [hf] at hk
        cases hk
        exact (h.p f (List.mem_of_find?_eq_some hf)).2.2
    · cases hk
end Go.Proofs.Ytkllgikmlgponaa.Fil
