/-
  Rows of files, on: the order of a row does not matter; a rising row makes itself. No program in sight.
-/
import Derived.Test.YtkllgikmlgponaaTree9
namespace Go.Proofs.Ytkllgikmlgponaa.Fil
open Go.ChangeShapes Go.WideShapes Go.Deep Go.RowKit
theorem find_perm {x y : List Fl} (hd : x.Pairwise fun a b => a.path ≠ b.path) (h : y.Perm x) (p : List UInt8) : y.find? (fun f => f.path == p) = x.find? (fun f => f.path == p) := by
  have hy : y.Pairwise fun a b => a.path ≠ b.path := (h.pairwise_iff (fun {a b} q e => q e.symm)).2 hd
  have one : ∀ (z : List Fl), (z.Pairwise fun a b => a.path ≠ b.path) → ∀ f ∈ z, f.path = p → z.find? (fun f => f.path == p) = some f := by
    intro z
    induction z with
    | nil => intro _ f hf; cases hf
    | cons g r ih =>
      intro hz f hf hp
      obtain ⟨d1, d2⟩ := List.pairwise_cons.1 hz
      rcases List.mem_cons.1 hf with rfl | hf
      · rw [List.find?_cons, show (f.path == p) = true by simpa using hp]
      · have : (g.path == p) = false := by
          rw [beq_eq_false_iff_ne]
          intro q
          exact d1 f hf (q.trans hp.symm)
        rw [List.find?_cons, this]
        exact ih d2 f hf hp
  cases hf : x.find? (fun f => f.path == p) with
  | none =>
    rw [List.find?_eq_none] at hf ⊢
    exact fun f hm => hf f (h.mem_iff.1 hm)
  | some f =>
    have h1 := List.mem_of_find?_eq_some hf
    have h2 : f.path = p := by have := List.find?_some hf; simpa using this
    exact one y hy f (h.mem_iff.2 h1) h2
theorem kd_perm {x y : List Fl} (hd : x.Pairwise fun a b => a.path ≠ b.path) (h : y.Perm x) (ks : List (List UInt8)) : kd y ks = kd x ks := by
  unfold kd
  rw [find_perm hd h]
theorem kindL_perm {x y : List Fl} (hd : x.Pairwise fun a b => a.path ≠ b.path) (h : y.Perm x) (p : List UInt8) : kindL y p = kindL x p := by
  unfold kindL
  rw [find_perm hd h]
theorem row_perm {x y : List Fl} (hx : RowF x) (h : y.Perm x) : RowF y :=
  ⟨fun f hf => hx.p f (h.mem_iff.1 hf), (h.pairwise_iff (fun {a b} q e => q e.symm)).2 hx.d, fun ks a ha => by rw [kd_perm hx.d h] at ha ⊢; exact hx.u ks a ha⟩
theorem kindL_mem {x : List Fl} (hx : RowF x) {f : Fl} (hf : f ∈ x) : kindL x f.path = f.kind := by
  rw [kd_kind hx (hx.p f hf).1, kd_mem hx hf]; rfl
/-- A directory's path comes before that of what it holds. -/
theorem lt_append (a b : List UInt8) (h : b ≠ []) : a < a ++ b := by
  induction a with
  | nil => cases b with
    | nil => exact absurd rfl h
    | cons c r => simp
  | cons c r ih => rw [List.cons_append, List.cons_lt_cons_iff]; exact .inr ⟨rfl, ih⟩
theorem dir_lt {p : List UInt8} (hp : pathB p = true) (hne : p ≠ [47]) (hd : dirL p ≠ [47]) : dirL p < p := by
  obtain ⟨h1, h2, h3⟩ := nms_split hp hne
  have e1 := (nms_ok hp).1
  have e2 := (nms_ok h1).1
  have hn : nms (dirL p) ≠ [] := fun q => by rw [q] at e2; exact hd e2.symm
  have e3 : joinN (nms (dirL p)) = dirL p := by unfold txt at e2; rwa [if_neg hn] at e2
  have : p = dirL p ++ 47 :: lastN p := by
    have e4 : txt (nms (dirL p) ++ [lastN p]) = dirL p ++ 47 :: lastN p := by
      unfold txt
      rw [if_neg (by simp), joinN_snoc, e3]
    rw [← h2, e1] at e4
    exact e4
  conv => rhs; rw [this]
  exact lt_append _ _ (by simp)
theorem ofF_rise {x l : List Fl} (hx : RowF x) (hp : l.Perm x) (hr : l.Pairwise fun a b => a.path < b.path) (hlen : l.length ≤ 9000) : ∀ k, k ≤ l.length → ofF (l.take k) = l.take k
  | 0, _ => rfl
  | k + 1, hk => by
    have ih := ofF_rise hx hp hr hlen k (by omega)
    have hlt : k < l.length := by omega
    rw [ofF_snoc l k l[k] (List.getElem?_eq_getElem hlt), ih, List.take_succ_eq_append_getElem hlt]
    have hfm : l[k] ∈ x := hp.mem_iff.1 (List.getElem_mem hlt)
    obtain ⟨f1, f2, f3, f4⟩ := hx.p _ hfm
    have hk1 : kindL (l.take k) l[k].path = 0 := by
      unfold kindL
      rw [if_neg f2]
      have : (l.take k).find? (fun f => f.path == l[k].path) = none := by
        rw [List.find?_eq_none]
        intro f hf
        obtain ⟨j, hj, e⟩ := List.mem_iff_getElem.1 hf
        rw [List.length_take] at hj
        rw [List.getElem_take] at e
        subst e
        have := List.pairwise_iff_getElem.1 hr j k (by omega) hlt (by omega)
        simp only [beq_iff_eq]
        intro q
        rw [q] at this
        exact absurd this (by simp)
      rw [this]
    have hkd : kindL (l.take k) (dirL l[k].path) = 1 := by
      by_cases hd : dirL l[k].path = [47]
      · rw [hd]; rfl
      · obtain ⟨s1, s2, s3⟩ := nms_split f1 f2
        have hu := hx.u (nms (dirL l[k].path)) (lastN l[k].path) (by rw [← s2, kd_mem hx hfm]; rfl)
        have e2 := (nms_ok s1).1
        obtain ⟨g, hg, g1, g2, _⟩ := kd_find hu (fun q => by rw [q] at e2; exact hd e2.symm)
        rw [e2] at g1
        obtain ⟨j, hj, ej⟩ := List.mem_iff_getElem.1 (hp.mem_iff.2 hg)
        have hlt2 := dir_lt f1 f2 hd
        have hjk : j < k := by
          rcases Nat.lt_trichotomy j k with z | z | z
          · exact z
          · subst z
            have q : l[j].path = dirL l[j].path := (congrArg Fl.path ej).trans g1
            rw [← q] at hlt2
            exact absurd hlt2 (by simp)
          · have := List.pairwise_iff_getElem.1 hr k j hlt hj z
            rw [ej, g1] at this
            exact absurd (List.lt_trans this hlt2) (by simp)
        have hd2 : (l.take k).Pairwise fun a b => a.path ≠ b.path := ((row_perm hx hp).d).sublist (List.take_sublist _ _)
        unfold kindL
        rw [if_neg hd]
        have hgm : g ∈ l.take k := by
          rw [← ej]
          exact List.mem_iff_getElem.2 ⟨j, by rw [List.length_take]; omega, by rw [List.getElem_take]⟩
        cases hf : (l.take k).find? (fun f => f.path == dirL l[k].path) with
        | none =>
          have := List.find?_eq_none.1 hf g hgm
          simp [g1] at this
        | some f =>
          have h1 := List.mem_of_find?_eq_some hf
          have h2 : f.path = dirL l[k].path := by have := List.find?_some hf; simpa using this
          have h3 : f ∈ x := hp.mem_iff.1 (List.mem_of_mem_take h1)
          show f.kind = 1
          rw [← g2, ← kindL_mem hx h3, ← kindL_mem hx hg, h2, g1]
    unfold makeL
    rw [if_pos]
    unfold makeN
    rw [if_pos f1, if_neg (by omega), if_neg (by simp [hk1]), if_neg (by simp [hkd]), if_neg (by simp [hkd]), if_neg (by rw [List.length_take]; omega)]
end Go.Proofs.Ytkllgikmlgponaa.Fil
