/-
  Rows of files, on: the names below a path, files below a path, a row without a path. No program in sight.
-/
import Derived.Test.YtnecmpgcjgkheaaGreatTree2
set_option linter.unusedSimpArgs false
set_option linter.unusedVariables false
namespace Go.Proofs.YtnecmpgcjgkheaaGreat.Fil
open Go.ChangeShapes Go.WideShapes Go.Deep Go.RowKit
theorem kd_mem {x : List Fl} (h : RowF x) {f : Fl} (hf : f ∈ x) : kd x (nms f.path) = some f.kind := by
  obtain ⟨h1, h2, _⟩ := h.p f hf
  obtain ⟨e, hn⟩ := nms_ok h1
  have hk : nms f.path ≠ [] := fun q => by rw [q] at e; exact h2 e.symm
  unfold kd
  rw [if_neg hk, if_pos (List.all_eq_true.2 hn), e]
  have : x.find? (fun g => g.path == f.path) = some f := by
    have hd := h.d
    clear h h1 h2 e hn hk
    induction x with
    | nil => cases hf
    | cons g r ih =>
      obtain ⟨d1, d2⟩ := List.pairwise_cons.1 hd
      by_cases q : g.path = f.path
      · rcases List.mem_cons.1 hf with rfl | hf
        · simp
        · exact absurd q (d1 f hf)
      · rcases List.mem_cons.1 hf with rfl | hf
        · exact absurd rfl q
        · rw [List.find?_cons, show (g.path == f.path) = false by rw [beq_eq_false_iff_ne]; exact q]
          exact ih hf d2
  rw [this]; rfl
theorem kd_find {x : List Fl} {ks : List (List UInt8)} {k : Int} (hk : kd x ks = some k) (hne : ks ≠ []) : ∃ f ∈ x, f.path = txt ks ∧ f.kind = k ∧ nms f.path = ks := by
  have hn := kd_names (x := x) (ks := ks) (by rw [hk]; rfl)
  unfold kd at hk
  rw [if_neg hne, if_pos (List.all_eq_true.2 hn)] at hk
  cases hf : x.find? (fun f => f.path == txt ks) with
  | none => rw [hf] at hk; cases hk
  | some f =>
    rw [hf] at hk
    have hp := List.find?_some hf
    simp at hp
    exact ⟨f, List.mem_of_find?_eq_some hf, hp, by simpa using hk, by rw [hp]; exact nms_txt hn⟩
/-- The last names of the files in a directory, as they stand in the row. -/
def lastsL (x : List Fl) (p : List UInt8) : List (List UInt8) := (x.filter fun f => dirL f.path == p).map fun f => lastN f.path
theorem mem_lasts {x : List Fl} (h : RowF x) {p : List UInt8} (hp : pathB p = true) (a : List UInt8) : a ∈ lastsL x p ↔ (kd x (nms p ++ [a])).isSome = true := by
  unfold lastsL
  rw [List.mem_map]
  constructor
  · rintro ⟨f, hf, rfl⟩
    rw [List.mem_filter] at hf
    obtain ⟨h1, h2, _⟩ := h.p f hf.1
    have hs := (nms_split h1 h2).2.1
    have hd : dirL f.path = p := by simpa using hf.2
    rw [hd] at hs
    rw [← hs, kd_mem h hf.1]; rfl
  · intro hk
    obtain ⟨k, hk⟩ := Option.isSome_iff_exists.1 hk
    obtain ⟨f, hf, _, _, hn⟩ := kd_find hk (by simp)
    obtain ⟨h1, h2, _⟩ := h.p f hf
    obtain ⟨s1, s2, _⟩ := nms_split h1 h2
    rw [hn] at s2
    have hh := List.append_inj' s2 rfl
    refine ⟨f, List.mem_filter.2 ⟨hf, ?_⟩, ?_⟩
    · rw [beq_iff_eq, ← (nms_ok s1).1, ← hh.1, (nms_ok hp).1]
    · have := hh.2; simp at this; exact this.symm
/-- A text into a rising row, where it isn't there. -/
def putL : List (List UInt8) → List UInt8 → List (List UInt8)
  | [], s => [s]
  | a :: r, s => if s ≤ a then (if a = s then a :: r else s :: a :: r) else a :: putL r s
theorem putL_mem (s : List UInt8) : ∀ (l : List (List UInt8)) (a : List UInt8), a ∈ putL l s ↔ a = s ∨ a ∈ l
  | [], a => by simp [putL]
  | b :: r, a => by
    unfold putL
    split
    · split
      · rename_i _ h; subst h; simp
      · simp
    · rw [List.mem_cons, putL_mem s r a, List.mem_cons]
      constructor
      · rintro (h | h | h)
        · exact .inr (.inl h)
        · exact .inl h
        · exact .inr (.inr h)
      · rintro (h | h | h)
        · exact .inr (.inl h)
        · exact .inl h
        · exact .inr (.inr h)
abbrev Rise (l : List (List UInt8)) : Prop := l.Pairwise (· < ·)
theorem lt_of_le_ne {a b : List UInt8} (h : a ≤ b) (hn : a ≠ b) : a < b := by
  rcases List.le_iff_lt_or_eq.1 h with h | h
  · exact h
  · exact absurd h hn
theorem lt_of_not_le {a b : List UInt8} (h : ¬ a ≤ b) : b < a := by simpa using h
theorem putL_rise (s : List UInt8) : ∀ (l : List (List UInt8)), Rise l → Rise (putL l s)
  | [], _ => by simp [putL, Rise]
  | b :: r, h => by
    obtain ⟨h1, h2⟩ := List.pairwise_cons.1 h
    unfold putL
    split
    · rename_i hs
      split
      · exact h
      · rename_i hne
        have hlt : s < b := lt_of_le_ne hs (fun e => hne e.symm)
        refine List.pairwise_cons.2 ⟨fun a ha => ?_, h⟩
        rcases List.mem_cons.1 ha with rfl | ha
        · exact hlt
        · exact List.lt_trans hlt (h1 a ha)
    · rename_i hs
      refine List.pairwise_cons.2 ⟨fun a ha => ?_, putL_rise s r h2⟩
      rcases (putL_mem s r a).1 ha with rfl | ha
      · exact lt_of_not_le hs
      · exact h1 a ha
theorem putL_snoc (s : List UInt8) : ∀ (l : List (List UInt8)) (a : List UInt8), (∃ b ∈ l, s ≤ b) → putL (l ++ [a]) s = putL l s ++ [a]
  | [], a, h => by obtain ⟨b, hb, _⟩ := h; cases hb
  | c :: r, a, h => by
    rw [List.cons_append]
    unfold putL
    split
    · split <;> rfl
    · rename_i hs
      rw [putL_snoc s r a (by
        obtain ⟨b, hb, hl⟩ := h
        rcases List.mem_cons.1 hb with rfl | hb
        · exact absurd hl hs
        · exact ⟨b, hb, hl⟩)]
      rfl
theorem putL_low (s : List UInt8) : ∀ (l m : List (List UInt8)), (∀ b ∈ l, ¬ s ≤ b) → putL (l ++ m) s = l ++ putL m s
  | [], m, _ => rfl
  | c :: r, m, h => by
    rw [List.cons_append]
    show (if s ≤ c then _ else _) = _
    rw [if_neg (h c (by simp)), putL_low s r m (fun b hb => h b (by simp [hb]))]
    rfl
theorem fold_put_mem (a : List UInt8) : ∀ (l acc : List (List UInt8)), a ∈ l.foldl putL acc ↔ a ∈ l ∨ a ∈ acc
  | [], acc => by simp
  | b :: r, acc => by
    rw [List.foldl_cons, fold_put_mem a r, putL_mem, List.mem_cons]
    constructor
    · rintro (h | h | h)
      · exact .inl (.inr h)
      · exact .inl (.inl h)
      · exact .inr h
    · rintro ((h | h) | h)
      · exact .inr (.inl h)
      · exact .inl h
      · exact .inr (.inr h)
theorem fold_put_rise : ∀ (l acc : List (List UInt8)), Rise acc → Rise (l.foldl putL acc)
  | [], _, h => h
  | b :: r, acc, h => fold_put_rise r _ (putL_rise b acc h)
theorem rise_nodup {l : List (List UInt8)} (h : Rise l) : l.Nodup := h.imp fun {a b} hlt e => by subst e; exact absurd hlt (by simp)
theorem rise_eq {l m : List (List UInt8)} (hl : Rise l) (hm : Rise m) (h : ∀ a, a ∈ l ↔ a ∈ m) : l = m := by
  refine List.Perm.eq_of_pairwise (le := fun a b => a ≤ b) (fun a b _ _ h1 h2 => List.le_antisymm h1 h2) (hl.imp fun {a b} q => List.le_of_lt q) (hm.imp fun {a b} q => List.le_of_lt q) ((List.perm_ext_iff_of_nodup (rise_nodup hl) (rise_nodup hm)).2 h)
/-- The names below a path, as the reference tells. -/
def namesR (x : List Fl) (p : List UInt8) : List (List UInt8) := (lastsL x p).foldl putL []
theorem namesR_eq {x : List Fl} (h : RowF x) {p : List UInt8} (hp : pathB p = true) {ss : List (List UInt8)} (hs : Rise ss) (hm : ∀ a, a ∈ ss ↔ (kd x (nms p ++ [a])).isSome = true) : ss = namesR x p := by
  refine rise_eq hs (fold_put_rise _ _ List.Pairwise.nil) (fun a => ?_)
  rw [hm, namesR, fold_put_mem, mem_lasts h hp]
  simp
/-- The files below some names. -/
def belowL (x : List Fl) (ks : List (List UInt8)) : List Fl := x.filter fun f => ks.isPrefixOf (nms f.path) && decide (ks.length < (nms f.path).length)
def fromL (x : List Fl) (ks : List (List UInt8)) : List Fl := x.filter fun f => ks.isPrefixOf (nms f.path)
theorem filter_or_perm {α : Type} (p q : α → Bool) : ∀ (l : List α), (∀ a ∈ l, ¬ (p a = true ∧ q a = true)) → (l.filter fun a => p a || q a).Perm (l.filter p ++ l.filter q)
  | [], _ => by simp
  | a :: r, h => by
    have ih := filter_or_perm p q r (fun b hb => h b (by simp [hb]))
    have ha := h a (by simp)
    cases hp : p a with
    | true =>
      have hq : q a = false := by cases hq : q a with
        | false => rfl
        | true => exact absurd ⟨hp, hq⟩ ha
      rw [List.filter_cons_of_pos (by simp [hp]), List.filter_cons_of_pos hp, List.filter_cons_of_neg (by simp [hq])]
      exact ih.cons a
    | false =>
      cases hq : q a with
      | true =>
        rw [List.filter_cons_of_pos (by simp [hq]), List.filter_cons_of_neg (by simp [hp]), List.filter_cons_of_pos hq]
        exact (ih.cons a).trans List.perm_middle.symm
      | false =>
        rw [List.filter_cons_of_neg (by simp [hp, hq]), List.filter_cons_of_neg (by simp [hp]), List.filter_cons_of_neg (by simp [hq])]
        exact ih
/-- One file and all below it. -/
theorem from_perm {x : List Fl} (h : RowF x) {ks : List (List UInt8)} {k : Int} (hk : kd x ks = some k) (hne : ks ≠ []) : (fromL x ks).Perm (⟨txt ks, k⟩ :: belowL x ks) := by
  obtain ⟨f, hf, h1, h2, h3⟩ := kd_find hk hne
  have hff : f = ⟨txt ks, k⟩ := by cases f; simp_all
  have e : fromL x ks = x.filter fun g => (decide (g.path = f.path)) || (ks.isPrefixOf (nms g.path) && decide (ks.length < (nms g.path).length)) := by
    refine List.filter_congr fun g hg => ?_
    cases hpre : ks.isPrefixOf (nms g.path) with
    | false =>
      rw [Bool.false_and, Bool.or_false]
      symm
      rw [decide_eq_false_iff_not]
      intro q
      rw [q, h3, List.isPrefixOf_iff_prefix.2 (List.prefix_refl _)] at hpre
      cases hpre
    | true =>
      rw [Bool.true_and]
      obtain ⟨t, ht⟩ := List.isPrefixOf_iff_prefix.1 hpre
      cases t with
      | nil =>
        rw [List.append_nil] at ht
        have : g.path = f.path := by rw [← (nms_ok (h.p g hg).1).1, ← (nms_ok (h.p f hf).1).1, ← ht, h3]
        simp [this]
      | cons b r =>
        have : ks.length < (nms g.path).length := by rw [← ht]; simp
        simp [this]
  rw [e]
  refine (filter_or_perm _ _ x (fun g hg => ?_)).trans ?_
  · rintro ⟨q1, q2⟩
    have q1 : g.path = f.path := by simpa using q1
    rw [q1, h3] at q2
    simp at q2
  · have e2 : x.filter (fun g => decide (g.path = f.path)) = [f] := by
      have hd := h.d
      clear e hk h
      induction x with
      | nil => cases hf
      | cons g r ih =>
        obtain ⟨d1, d2⟩ := List.pairwise_cons.1 hd
        rcases List.mem_cons.1 hf with rfl | hf
        · rw [List.filter_cons_of_pos (by simp), List.filter_eq_nil_iff.2 (fun b hb => by simpa using fun q => d1 b hb q.symm)]
        · rw [List.filter_cons_of_neg (by simpa using d1 f hf), ih hf d2]
    rw [e2, hff]
    exact List.Perm.refl _
/-- All that is below, name by name. -/
theorem below_perm {x : List Fl} (h : RowF x) {ks : List (List UInt8)} {ss : List (List UInt8)} (hs : ss.Nodup) (hm : ∀ a, a ∈ ss ↔ (kd x (ks ++ [a])).isSome = true) : (belowL x ks).Perm (ss.flatMap fun a => fromL x (ks ++ [a])) := by
  have key : ∀ ss : List (List UInt8), ss.Nodup → (x.filter fun f => ss.any fun a => (ks ++ [a]).isPrefixOf (nms f.path)).Perm (ss.flatMap fun a => fromL x (ks ++ [a])) := by
    intro ss
    induction ss with
    | nil => intro _; simp
    | cons a r ih =>
      intro hnd
      obtain ⟨n1, n2⟩ := List.nodup_cons.1 hnd
      rw [List.flatMap_cons]
      refine (List.Perm.of_eq (List.filter_congr fun f _ => ?_)).trans ((filter_or_perm (fun f => (ks ++ [a]).isPrefixOf (nms f.path)) (fun f => r.any fun a => (ks ++ [a]).isPrefixOf (nms f.path)) x (fun f _ => ?_)).trans ((ih n2).append_left _))
      · rw [List.any_cons]
      · rintro ⟨q1, q2⟩
        obtain ⟨b, hb, hb2⟩ := List.any_eq_true.1 q2
        obtain ⟨t1, e1⟩ := List.isPrefixOf_iff_prefix.1 q1
        obtain ⟨t2, e2⟩ := List.isPrefixOf_iff_prefix.1 hb2
        have := e1.trans e2.symm
        rw [List.append_assoc, List.append_assoc] at this
        have := List.append_cancel_left this
        simp at this
        exact n1 (this.1 ▸ hb)
  refine (List.Perm.of_eq (List.filter_congr fun f hf => ?_)).trans (key ss hs)
  have hkf := kd_mem h hf
  cases hany : ss.any fun a => (ks ++ [a]).isPrefixOf (nms f.path) with
  | true =>
    obtain ⟨b, hb, hb2⟩ := List.any_eq_true.1 hany
    obtain ⟨t, e⟩ := List.isPrefixOf_iff_prefix.1 hb2
    rw [Bool.and_eq_true]
    refine ⟨List.isPrefixOf_iff_prefix.2 ⟨b :: t, by rw [← e]; simp⟩, ?_⟩
    rw [← e]
    simp
  | false =>
    rw [Bool.and_eq_false_iff]
    cases hpre : ks.isPrefixOf (nms f.path) with
    | false => exact .inl rfl
    | true =>
      right
      obtain ⟨t, e⟩ := List.isPrefixOf_iff_prefix.1 hpre
      cases t with
      | nil => rw [← e]; simp
      | cons b r =>
        exfalso
        have h1 : (kd x (ks ++ [b])).isSome = true := kd_up0 h (ks ++ [b]) r (by rw [List.append_assoc]; show (kd x (ks ++ b :: r)).isSome = true; rw [e, hkf]; rfl)
        have h2 := (hm b).2 h1
        have : (ss.any fun a => (ks ++ [a]).isPrefixOf (nms f.path)) = true := List.any_eq_true.2 ⟨b, h2, List.isPrefixOf_iff_prefix.2 ⟨r, by rw [← e]; simp⟩⟩
        rw [this] at hany
        cases hany
where
  kd_up0 {x : List Fl} (h : RowF x) (ks js : List (List UInt8)) (hk : (kd x (ks ++ js)).isSome = true) : (kd x ks).isSome = true := kd_up h ks js.length js rfl hk
/-- A row without a path. -/
def dropL (x : List Fl) (p : List UInt8) : List Fl := x.filter fun f => !(f.path == p)
theorem kd_drop {x : List Fl} {p : List UInt8} (hp : pathB p = true) (ks : List (List UInt8)) (hne : p ≠ [47]) : kd (dropL x p) ks = if ks = nms p then none else kd x ks := by
  obtain ⟨e, hnm⟩ := nms_ok hp
  have hk : nms p ≠ [] := fun q => by rw [q] at e; exact hne e.symm
  by_cases h1 : ks = []
  · subst h1; rw [if_neg (fun q => hk q.symm)]; rfl
  · unfold kd
    rw [if_neg h1, if_neg h1]
    by_cases h2 : ks.all nameB = true
    · rw [if_pos h2, if_pos h2]
      unfold dropL
      by_cases h3 : ks = nms p
      · rw [if_pos h3, h3, e]
        have : (x.filter fun f => !(f.path == p)).find? (fun f => f.path == p) = none := by
          rw [List.find?_eq_none]
          intro f hf
          have := (List.mem_filter.1 hf).2
          simpa using this
        rw [this]; rfl
      · rw [if_neg h3, List.find?_filter]
        congr 1
        congr 1
        funext f
        cases hq : f.path == txt ks with
        | false => simp
        | true =>
          have : f.path ≠ p := fun q => h3 (txt_inj (List.all_eq_true.1 h2) hnm (by rw [e, ← q]; exact (by simpa using hq : f.path = txt ks).symm))
          simp [this]
    · rw [if_neg h2, if_neg h2]
      split <;> rfl
theorem row_drop {x : List Fl} (h : RowF x) {p : List UInt8} (hp : pathB p = true) (hne : p ≠ [47]) (hno : ∀ a, kd x (nms p ++ [a]) = none) : RowF (dropL x p) := by
  have hks := fun ks => kd_drop (x := x) hp ks hne
  refine ⟨fun f hf => h.p f (List.mem_filter.1 hf).1, h.d.sublist List.filter_sublist, fun ks a ha => ?_⟩
  rw [hks] at ha ⊢
  by_cases q : ks ++ [a] = nms p
  · rw [if_pos q] at ha; cases ha
  · rw [if_neg q] at ha
    have hu := h.u ks a ha
    rw [if_neg, hu]
    intro q2
    rw [q2, hno a] at ha
    cases ha
theorem drop_len {x : List Fl} (h : RowF x) {p : List UInt8} (hp : pathB p = true) (hne : p ≠ [47]) (hk : (kd x (nms p)).isSome = true) : (dropL x p).length + 1 = x.length := by
  obtain ⟨k, hk2⟩ := Option.isSome_iff_exists.1 hk
  clear hk
  obtain ⟨e, hnm⟩ := nms_ok hp
  have hk0 : nms p ≠ [] := fun q => by rw [q] at e; exact hne e.symm
  obtain ⟨f, hf, h1, _, _⟩ := kd_find hk2 hk0
  rw [e] at h1
  have hd := h.d
  unfold dropL
  clear h hk2 hp hne e hnm hk0
  subst h1
  induction x with
  | nil => cases hf
  | cons g r ih =>
    obtain ⟨d1, d2⟩ := List.pairwise_cons.1 hd
    rcases List.mem_cons.1 hf with rfl | hf
    · rw [List.filter_cons_of_neg (by simp), List.filter_eq_self.2 (fun b hb => by simpa using fun q => d1 b hb q.symm)]
      rfl
    · rw [List.filter_cons_of_pos (by simpa using d1 f hf)]
      have := ih hf d2
      simp only [List.length_cons]
      omega
end Go.Proofs.YtnecmpgcjgkheaaGreat.Fil
