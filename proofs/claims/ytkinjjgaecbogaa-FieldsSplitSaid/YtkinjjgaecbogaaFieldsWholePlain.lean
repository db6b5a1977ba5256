/-
  Plain laws of the law FieldsWhole: pieces that nothing parts.
-/
import Derived.Test.YtkinjjgaecbogaaFieldsPlain
namespace Go.Proofs.Ytkinjjgaecbogaa
def bytesU (us : List Un) : List UInt8 := us.filterMap fun u => if u.none then none else some u.b
theorem fold_add (sp : List UInt8) : ∀ (us : List Un) (m : Mk), (∀ u ∈ us, (u.none || !u.parts || !sp.contains u.b) = true) →
    ∃ pat, us.foldl (stepM sp) m = ⟨m.l, m.text ++ bytesU us, pat, m.begun || !us.isEmpty, if us.isEmpty then m.mark else false⟩
  | [], m, _ => ⟨m.pat, by simp [bytesU]⟩
  | u :: us, m, h => by
    have hu := h u (by simp)
    obtain ⟨pat, hp⟩ := fold_add sp us (addM m u) (fun x hx => h x (by simp [hx]))
    refine ⟨pat, ?_⟩
    rw [List.foldl_cons]
    have : stepM sp m u = addM m u := by unfold stepM; rw [if_pos hu]
    rw [this, hp]
    unfold addM bytesU
    cases hn : u.none <;> simp [hn]
def textOf (l : List Piece) : List UInt8 := l.flatMap (·.text)
def someB (l : List Piece) : Bool := l.any fun p => p.q || decide (0 < p.text.length)
def quo (p : Piece) : Piece := ⟨p.ex, true, p.text⟩
theorem bytes_units (l : List Piece) : bytesU (unitsOf l) = textOf l := by
  unfold bytesU unitsOf textOf
  rw [List.filterMap_flatMap]
  congr 1
  funext p
  unfold unitsP headU
  rw [List.filterMap_append, List.filterMap_map]
  have h1 : List.filterMap (fun u : Un => if u.none = true then none else some u.b) (if p.text = [] ∧ p.q = true then [⟨0, true, true, false⟩] else []) = [] := by split <;> simp
  rw [h1, List.nil_append]
  have : ((fun u : Un => if u.none = true then none else some u.b) ∘ byteU p) = some := by funext b; simp [byteU]
  rw [this, List.filterMap_some]
theorem units_none (l : List Piece) : (unitsOf l).isEmpty = !someB l := by
  induction l with
  | nil => rfl
  | cons p l ih =>
    have h1 : (unitsOf (p :: l)).isEmpty = ((unitsP p).isEmpty && (unitsOf l).isEmpty) := by
      unfold unitsOf
      rw [List.flatMap_cons]
      cases unitsP p <;> simp
    have h2 : (unitsP p).isEmpty = !(p.q || decide (0 < p.text.length)) := by
      unfold unitsP headU
      obtain ⟨ex, q, t⟩ := p
      cases t <;> cases q <;> simp
    rw [h1, ih, h2]
    simp [someB, Bool.not_or]
theorem whole_a (l : List Piece) : ∃ pat, splitF l [] = if someB l then [⟨textOf l, pat⟩] else [] := by
  obtain ⟨pat, hp⟩ := fold_add [] (unitsOf l) mk0 (fun u _ => by simp)
  refine ⟨pat, ?_⟩
  unfold splitF outM foldM
  rw [hp, bytes_units, units_none]
  cases someB l <;> simp [mk0, endM]
theorem whole_b (l : List Piece) (sp : List UInt8) : ∃ pat, splitF (l.map quo) sp = if l = [] then [] else [⟨textOf l, pat⟩] := by
  obtain ⟨pat, hp⟩ := fold_add sp (unitsOf (l.map quo)) mk0 (fun u hu => by
    unfold unitsOf at hu
    simp only [List.mem_flatMap, List.mem_map] at hu
    obtain ⟨p, ⟨p0, _, rfl⟩, hu⟩ := hu
    simp only [unitsP, headU, quo, List.mem_append, List.mem_map] at hu
    rcases hu with hu | ⟨b, _, rfl⟩
    · split at hu
      · simp only [List.mem_singleton] at hu; subst hu; rfl
      · simp at hu
    · simp [byteU])
  refine ⟨pat, ?_⟩
  have ht : textOf (l.map quo) = textOf l := by simp [textOf, List.flatMap_map, quo]
  have hs : someB (l.map quo) = !l.isEmpty := by cases l <;> simp [someB, quo]
  unfold splitF outM foldM
  rw [hp, bytes_units, units_none, ht, hs]
  cases l <;> simp [mk0, endM]
theorem textOf_snoc (l : List Piece) (p : Piece) : textOf (l ++ [p]) = textOf l ++ p.text := by simp [textOf]
theorem someB_snoc (l : List Piece) (p : Piece) : someB (l ++ [p]) = (someB l || p.q || decide (0 < p.text.length)) := by simp [someB, Bool.or_assoc]
theorem textOf_len (l : List Piece) (h : ∀ p ∈ l, p.text.length ≤ 40) : (textOf l).length ≤ 40 * l.length := by
  induction l with
  | nil => simp [textOf]
  | cons p l ih =>
    have h1 := h p (by simp)
    have h2 := ih (fun x hx => h x (by simp [hx]))
    simp only [textOf, List.flatMap_cons, List.length_append, List.length_cons] at h2 ⊢
    omega
theorem units_len (l : List Piece) (n : Nat) (h : ∀ p ∈ l, p.text.length ≤ n) : (unitsOf l).length ≤ (n + 1) * l.length := by
  induction l with
  | nil => simp [unitsOf]
  | cons p l ih =>
    have h1 := h p (by simp)
    have h2 := ih (fun x hx => h x (by simp [hx]))
    have h3 : (unitsP p).length ≤ n + 1 := by
      unfold unitsP headU
      rw [List.length_append, List.length_map]
      split <;> simp <;> omega
    unfold unitsOf at h2 ⊢
    rw [List.flatMap_cons, List.length_append, List.length_cons, Nat.mul_add]
    omega
end Go.Proofs.Ytkinjjgaecbogaa
