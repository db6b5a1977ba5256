/-
  Patterns of paths, plainly: how many texts a pattern may lead to; what it leads to is there; a star. No program in sight.
-/
import Derived.Test.YtnecmpgcjgkheaaGreatGlob1
import Derived.Test.YtnecmpgcjgkheaaGreatTreePlain3
set_option linter.unusedSimpArgs false
set_option linter.unusedVariables false
namespace Go.Proofs.YtnecmpgcjgkheaaGreat.Glob
open Go.ChangeShapes Go.WideShapes Go.Deep Go.RowKit Fil Pat
/-- A literal's bytes are its pattern's. -/
theorem parseN_mem (p : List UInt8) : ∀ (q n : Nat) (b : UInt8), At.byte b ∈ parseN p q n → b ∈ p
  | 0, _, _, h => by simp [parseN] at h
  | q + 1, n, b, h => by
    unfold parseN at h
    split at h
    · cases h
    · rename_i c hc
      rcases List.mem_cons.1 h with h | h
      · have h1 := List.mem_of_getElem? hc
        unfold atomAt at h
        split at h
        · split at h
          · rename_i d hd
            dsimp only at h
            injection h with h
            rw [h]; exact List.mem_of_getElem? hd
          · dsimp only at h; injection h with h; rw [h]; exact h1
        · split at h
          · cases h
          · split at h
            · cases h
            · split at h
              · split at h
                · cases h
                · dsimp only at h; injection h with h; rw [h]; exact h1
              · dsimp only at h; injection h with h; rw [h]; exact h1
      · exact parseN_mem p q _ b h
theorem lit_mem {p : List UInt8} {b : UInt8} (h : b ∈ litT (parse p)) : b ∈ p := by
  unfold litT at h
  split at h
  · rename_i hl
    obtain ⟨a, ha, rfl⟩ := List.mem_map.1 h
    have := List.all_eq_true.1 hl a ha
    cases a with
    | byte b => exact parseN_mem p _ _ b ha
    | one => cases this
    | many => cases this
    | set f => cases this
  · cases h
theorem lit_ne {p : List UInt8} (hp : p ≠ []) (hl : litB (parse p) = true) : litT (parse p) ≠ [] := by
  unfold litT
  rw [if_pos hl]
  cases p with
  | nil => exact absurd rfl hp
  | cons c r =>
    rw [show parse (c :: r) = parseFrom (c :: r) 0 from rfl, parseFrom_step (c := c) rfl]
    simp
/-- Components: no stroke is in them. -/
theorem pre_mem {w : List UInt8} {ps : List (List UInt8)} (hw : 47 ∉ w) (h : ∀ q ∈ ps, (47 : UInt8) ∉ q) : ∀ q ∈ pre w ps, (47 : UInt8) ∉ q := by
  intro q hq
  cases ps with
  | nil => cases hq
  | cons a b =>
    simp only [pre, List.mem_cons] at hq
    rcases hq with rfl | hq
    · intro e
      rcases List.mem_append.1 e with e | e
      · exact hw e
      · exact h a (by simp) e
    · exact h q (by simp [hq])
theorem partsG_no : ∀ s, ∀ q ∈ partsG s, (47 : UInt8) ∉ q
  | [] => by simp [partsG]
  | [c] => by
    unfold partsG
    split
    · simp
    · rename_i h; simp; exact fun e => h e.symm
  | c :: d :: r => by
    have h1 := partsG_no r
    have h2 := partsG_no (d :: r)
    unfold partsG
    split
    · rename_i hc
      split
      · intro q hq
        rcases List.mem_cons.1 hq with rfl | hq
        · simp
        · exact h1 q hq
      · rename_i hd
        refine pre_mem ?_ h1
        rw [hc]
        simp
        exact fun e => hd e.symm
    · split
      · intro q hq
        rcases List.mem_cons.1 hq with rfl | hq
        · simp
        · exact h2 q hq
      · rename_i hc
        exact pre_mem (by simp; exact fun e => hc e.symm) h2
/-- How much room components take. -/
def wtG (ps : List (List UInt8)) : Nat := (ps.map fun q => q.length + 1).sum
theorem wt_pre (w : List UInt8) (ps : List (List UInt8)) : wtG (pre w ps) ≤ w.length + wtG ps := by
  cases ps with
  | nil => simp [pre, wtG]
  | cons a b => simp [pre, wtG]; omega
theorem wt_parts : ∀ s, wtG (partsG s) ≤ s.length + 1
  | [] => by simp [partsG, wtG]
  | [c] => by unfold partsG; split <;> simp [wtG]
  | c :: d :: r => by
    have h1 := wt_parts r
    have h2 := wt_parts (d :: r)
    have h3 := wt_pre [c, d] (partsG r)
    have h4 := wt_pre [c] (partsG (d :: r))
    have h5 : ∀ ps, wtG ([] :: ps) = wtG ps + 1 := fun ps => by simp [wtG]; omega
    simp at h2 h3 h4
    unfold partsG
    split
    · split
      · rw [h5]; simp; omega
      · simp; omega
    · split
      · rw [h5]; simp; omega
      · simp; omega
/-- A path from a directory on: one step. -/
theorem clean_step {dir a : List UInt8} (hd : pathB dir = true) (ha : (47 : UInt8) ∉ a) : cleanL dir a = txt (Fil.step (nms dir) a) := by
  have hh : a.head? ≠ some 47 := fun e => by
    cases a with
    | nil => cases e
    | cons c r => injection e with e; exact ha (by rw [e]; simp)
  have hn : namesL dir a = Fil.step (nms dir) a := by
    unfold namesL
    rw [startL_no hh, partsL_snoc, partsL_one ha, List.foldl_append]
    show Fil.step _ a = _
    congr 1
    obtain ⟨h1, h2⟩ := nms_ok hd
    by_cases e : nms dir = []
    · rw [e] at h1
      rw [← h1]
      decide +kernel
    · have hj : partsL dir = [] :: nms dir := by
        conv => lhs; rw [← h1]
        unfold txt
        rw [if_neg e]
        exact parts_join e fun n hn => (name_no (h2 n hn)).1
      rw [hj]
      show (nms dir).foldl Fil.step (Fil.step [] []) = _
      rw [show Fil.step [] [] = [] from rfl, fold_names _ _ (fun n hn => ?_), List.nil_append]
      have := h2 n hn
      unfold nameB at this
      simp at this
      exact ⟨(name_no (h2 n hn)).1, this.1.1.1.1.1, this.1.1.1.1.2, this.1.1.1.2⟩
  unfold cleanL txt
  rw [hn]
theorem kindP_kd {x : List Fl} (hx : RowF x) {p : List UInt8} (h : kindP x p ≠ 0) : pathB p = true ∧ (kd x (nms p)).isSome = true ∧ kindP x p = (kd x (nms p)).getD 0 := by
  unfold kindP at h ⊢
  split at h
  · rename_i hp
    rw [if_pos hp]
    have e := kd_kind hx hp
    refine ⟨hp, ?_, e⟩
    rw [e] at h
    cases hk : kd x (nms p) with
    | none => rw [hk] at h; exact absurd rfl h
    | some k => rfl
  · exact absurd rfl h
theorem step_up {ks : List (List UInt8)} {a : List UInt8} (h : a ≠ [46, 46]) : Fil.step ks a = ks ∨ Fil.step ks a = ks ++ [a] := by
  unfold Fil.step
  rw [if_neg h]
  split
  · exact .inl rfl
  · exact .inr rfl
theorem nms_txt47 {ks : List (List UInt8)} (h0 : ks ≠ []) (h47 : ∀ n ∈ ks, (47 : UInt8) ∉ n) (h1 : ks ≠ [[]]) : nms (txt ks) = ks := by
  have h7 : partsL (txt ks) = [] :: ks := by
    unfold txt
    rw [if_neg h0]
    exact parts_join h0 h47
  have ht : txt ks ≠ [47] := fun q => by
    rw [q] at h7
    have : partsL [47] = [[], []] := by decide +kernel
    rw [this] at h7
    injection h7 with _ h7
    exact h1 h7.symm
  obtain ⟨t, e2⟩ : ∃ t, txt ks = 47 :: t := by
    unfold txt
    rw [if_neg h0]
    cases ks with
    | nil => exact absurd rfl h0
    | cons a b => exact ⟨a ++ joinN b, by simp [joinN]⟩
  unfold nms
  rw [if_neg ht]
  rw [e2] at h7 ⊢
  rw [partsL_hd, if_pos rfl] at h7
  injection h7 with _ h7
/-- How many files stand from some names on, at least one. -/
def bG (x : List Fl) (ks : List (List UInt8)) : Nat := max 1 (fromL x ks).length
theorem from_more (x : List Fl) (ks : List (List UInt8)) (a : List UInt8) : (fromL x (ks ++ [a])).length ≤ (fromL x ks).length := by
  unfold fromL
  have : (x.filter fun f => (ks ++ [a]).isPrefixOf (nms f.path)) = (x.filter fun f => ks.isPrefixOf (nms f.path)).filter fun f => (ks ++ [a]).isPrefixOf (nms f.path) := by
    rw [List.filter_filter]
    refine List.filter_congr fun f _ => ?_
    cases h : (ks ++ [a]).isPrefixOf (nms f.path) with
    | false => simp
    | true =>
      have h1 := List.isPrefixOf_iff_prefix.1 h
      have h2 : ks.isPrefixOf (nms f.path) = true := List.isPrefixOf_iff_prefix.2 (List.IsPrefix.trans (List.prefix_append _ _) h1)
      simp [h2]
  rw [this]
  exact List.length_filter_le _ _
theorem below_from (x : List Fl) (ks : List (List UInt8)) : (belowL x ks).length ≤ (fromL x ks).length := by
  unfold belowL fromL
  have : (x.filter fun f => ks.isPrefixOf (nms f.path) && decide (ks.length < (nms f.path).length)) = (x.filter fun f => ks.isPrefixOf (nms f.path)).filter fun f => decide (ks.length < (nms f.path).length) := by
    rw [List.filter_filter]
    refine List.filter_congr fun f _ => ?_
    rw [Bool.and_comm]
  rw [this]
  exact List.length_filter_le _ _
theorem from_some {x : List Fl} (hx : RowF x) {ks : List (List UInt8)} {a : List UInt8} (h : (kd x (ks ++ [a])).isSome = true) : 1 ≤ (fromL x (ks ++ [a])).length := by
  obtain ⟨k, hk⟩ := Option.isSome_iff_exists.1 h
  have := (from_perm hx hk (by simp)).length_eq
  simp at this
  omega
theorem flat_le {α : Type} (f : List UInt8 → List α) (g : List UInt8 → List Fl) (c : Nat) : ∀ l : List (List UInt8), (∀ a ∈ l, (f a).length ≤ (g a).length * c) → (l.flatMap f).length ≤ (l.flatMap g).length * c
  | [], _ => by simp
  | a :: l, h => by
    have h1 := h a (by simp)
    have h2 := flat_le f g c l (fun b hb => h b (by simp [hb]))
    rw [List.flatMap_cons, List.flatMap_cons, List.length_append, List.length_append, Nat.add_mul]
    omega
theorem flat_filter {α : Type} (f : List UInt8 → List α) (q : List UInt8 → Bool) : ∀ l : List (List UInt8), ((l.filter q).flatMap f).length ≤ (l.flatMap f).length
  | [] => by simp
  | a :: l => by
    have h := flat_filter f q l
    rw [List.filter_cons]
    split
    · rw [List.flatMap_cons, List.flatMap_cons, List.length_append, List.length_append]; omega
    · rw [List.flatMap_cons, List.length_append]; omega
theorem li_names {x : List Fl} {dir a : List UInt8} (hx : RowF x) (h : a ∈ liL x dir) : pathB dir = true ∧ liL x dir = namesR x dir ∧ (kd x (nms dir ++ [a])).isSome = true := by
  unfold liL at h ⊢
  split at h
  · rename_i h0
    have hp : pathB dir = true := by
      unfold liN at h0
      split at h0
      · assumption
      · cases h0
    rw [if_pos h0]
    refine ⟨hp, rfl, ?_⟩
    unfold namesR at h
    rw [fold_put_mem] at h
    rcases h with h | h
    · exact (mem_lasts hx hp a).1 h
    · cases h
  · cases h
/-- A name that is there: its path. -/
theorem li_path {x : List Fl} {dir a : List UInt8} (hx : RowF x) (h : a ∈ liL x dir) : nameB a = true ∧ nms (cleanL dir a) = nms dir ++ [a] ∧ pathB (cleanL dir a) = true ∧ kindP x (cleanL dir a) = (kd x (nms dir ++ [a])).getD 0 ∧ kindP x (cleanL dir a) ≠ 0 := by
  obtain ⟨hp, -, hk⟩ := li_names hx h
  have hn := kd_names hk
  have ha : nameB a = true := hn a (by simp)
  have h47 := (name_no ha).1
  have hs : Fil.step (nms dir) a = nms dir ++ [a] := by
    unfold nameB at ha
    simp at ha
    unfold Fil.step
    rw [if_neg ha.1.1.1.2, if_neg (by simp [ha.1.1.1.1.1, ha.1.1.1.1.2])]
  have hc := clean_step hp h47
  rw [hs] at hc
  have hpc : pathB (cleanL dir a) = true := by rw [hc]; exact txt_path hn
  have hnc : nms (cleanL dir a) = nms dir ++ [a] := by rw [hc]; exact nms_txt hn
  have hkk : kindP x (cleanL dir a) = (kd x (nms dir ++ [a])).getD 0 := by
    unfold kindP
    rw [if_pos hpc, kd_kind hx hpc, hnc]
  refine ⟨ha, hnc, hpc, hkk, ?_⟩
  obtain ⟨k, hk2⟩ := Option.isSome_iff_exists.1 hk
  rw [hkk, hk2]
  have := kd_pos hx hk2
  simp
  omega
/-- How often stars multiply: behind each way up anew. -/
def uvG : List (List UInt8) → Nat × Nat
  | [] => (0, 0)
  | p :: ps => if p = [] then uvG ps else if litB (parse p) = true then (if litT (parse p) = [46, 46] then ((uvG ps).1, (uvG ps).1) else uvG ps) else (1 + (uvG ps).2, (uvG ps).2)
theorem uv_wt : ∀ ps, 5 * (uvG ps).1 ≤ wtG ps + 3 ∧ 5 * (uvG ps).2 ≤ wtG ps
  | [] => by simp [uvG]
  | p :: ps => by
    obtain ⟨h1, h2⟩ := uv_wt ps
    have hw : wtG (p :: ps) = p.length + 1 + wtG ps := by simp [wtG]
    unfold uvG
    split
    · omega
    · rename_i hp
      have hl : 1 ≤ p.length := by cases p with | nil => exact absurd rfl hp | cons a b => simp
      split
      · rename_i hl
        split
        · rename_i h
          have h3 := parse_len p
          unfold litT at h
          rw [if_pos hl] at h
          have := congrArg List.length h
          simp at this
          dsimp only
          omega
        · omega
      · dsimp only
        omega
set_option maxHeartbeats 1000000 in
theorem walkG_len {x : List Fl} (hx : RowF x) (M : Nat) (hM : ∀ ks, bG x ks ≤ M) : ∀ (ps : List (List UInt8)) (text dir : List UInt8), pathB dir = true → (∀ q ∈ ps, (47 : UInt8) ∉ q) →
    (walkG x ps text dir).length ≤ M ^ (uvG ps).1 ∧ (walkG x ps text dir).length ≤ bG x (nms dir) * M ^ (uvG ps).2
  | [], _, _, _, _ => by simp [walkG]
  | p :: ps, text, dir, hd, hq => by
    have hM1 : 1 ≤ M := Nat.le_trans (Nat.le_max_left _ _) (hM [])
    have hpw : ∀ n, 1 ≤ M ^ n := fun n => Nat.one_le_pow _ _ hM1
    have hb1 : ∀ ks, 1 ≤ bG x ks := fun ks => Nat.le_max_left _ _
    have ih := fun text dir (hd : pathB dir = true) => walkG_len hx M hM ps text dir hd (fun q h => hq q (by simp [h]))
    have hone : ∀ n ks, 1 ≤ bG x ks * M ^ n := fun n ks => Nat.mul_le_mul (hb1 ks) (hpw n)
    rw [walkG]
    unfold uvG
    by_cases hp : p = []
    · rw [if_pos hp, if_pos hp]
      by_cases hs : ps = []
      · rw [if_pos hs]
        exact ⟨by simpa using hpw _, by simpa using hone _ _⟩
      · rw [if_neg hs]; exact ih _ _ hd
    rw [if_neg hp, if_neg hp]
    have hst : ∀ a : List UInt8, (if kindP x (cleanL dir a) = 0 then ([] : List (List UInt8)) else if ps = [] then [text ++ a] else if kindP x (cleanL dir a) = 1 then walkG x ps (text ++ a ++ [47]) (cleanL dir a) else []).length ≤ M ^ (uvG ps).1 ∧
        (if kindP x (cleanL dir a) = 0 then ([] : List (List UInt8)) else if ps = [] then [text ++ a] else if kindP x (cleanL dir a) = 1 then walkG x ps (text ++ a ++ [47]) (cleanL dir a) else []).length ≤ bG x (nms (cleanL dir a)) * M ^ (uvG ps).2 := by
      intro a
      by_cases h0 : kindP x (cleanL dir a) = 0
      · rw [if_pos h0]; simp
      · rw [if_neg h0]
        have hpc := (kindP_kd hx h0).1
        split
        · exact ⟨by simpa using hpw _, by simpa using hone _ _⟩
        · split
          · exact ih _ _ hpc
          · simp
    by_cases hl : litB (parse p) = true
    · rw [if_pos hl]
      have hn : nameG x dir p = [litT (parse p)] := by unfold nameG; rw [if_pos hl]
      have h47 : (47 : UInt8) ∉ litT (parse p) := fun e => hq p (by simp) (lit_mem e)
      rw [hn, List.flatMap_cons, List.flatMap_nil, List.append_nil]
      by_cases hu : litT (parse p) = [46, 46]
      · rw [if_pos hu]
        obtain ⟨h1, -⟩ := hst (litT (parse p))
        exact ⟨h1, Nat.le_trans h1 (by dsimp only; exact Nat.le_mul_of_pos_left _ (hb1 _))⟩
      · rw [if_neg hu]
        obtain ⟨h1, h2⟩ := hst (litT (parse p))
        refine ⟨h1, ?_⟩
        by_cases h0 : kindP x (cleanL dir (litT (parse p))) = 0
        · rw [if_pos h0]; simp
        · refine Nat.le_trans h2 (Nat.mul_le_mul_right _ ?_)
          have hpc := (kindP_kd hx h0)
          have hc := clean_step hd h47
          rcases step_up (ks := nms dir) hu with e | e
          · rw [hc, e, (nms_ok hd).1]; exact Nat.le_refl _
          · rw [e] at hc
            have hnc : nms (cleanL dir (litT (parse p))) = nms dir ++ [litT (parse p)] := by
              rw [hc]
              refine nms_txt fun n hn => ?_
              rcases List.mem_append.1 hn with hn | hn
              · exact (nms_ok hd).2 n hn
              · obtain rfl := List.mem_singleton.1 hn
                have h5 := hpc.1
                have h6 := (nms_ok h5)
                rw [hc] at h6
                have h8 := nms_txt47 (ks := nms dir ++ [litT (parse p)]) (by simp) (fun m hm => by
                  rcases List.mem_append.1 hm with hm | hm
                  · exact (name_no ((nms_ok hd).2 m hm)).1
                  · rw [List.mem_singleton.1 hm]; exact h47) (fun h9 => lit_ne hp hl (by
                    have := congrArg List.getLast? h9
                    simpa using this))
                rw [h8] at h6
                exact h6.2 _ (by simp)
            rw [hnc]
            unfold bG
            have := from_more x (nms dir) (litT (parse p))
            omega
    · rw [if_neg hl]
      have hn : nameG x dir p = (liL x dir).filter (mayG p) := by unfold nameG; rw [if_neg hl]
      rw [hn]
      have key : (((liL x dir).filter (mayG p)).flatMap fun a => if kindP x (cleanL dir a) = 0 then ([] : List (List UInt8)) else if ps = [] then [text ++ a] else if kindP x (cleanL dir a) = 1 then walkG x ps (text ++ a ++ [47]) (cleanL dir a) else []).length ≤ bG x (nms dir) * M ^ (uvG ps).2 := by
        refine Nat.le_trans (flat_filter _ _ _) ?_
        refine Nat.le_trans (flat_le _ (fun a => fromL x (nms dir ++ [a])) (M ^ (uvG ps).2) _ (fun a ha => ?_)) (Nat.mul_le_mul_right _ ?_)
        · obtain ⟨-, h2, -⟩ := li_path hx ha
          have h3 := from_some hx (li_names hx ha).2.2
          have h4 := (hst a).2
          rw [h2] at h4
          refine Nat.le_trans h4 (Nat.mul_le_mul_right _ ?_)
          unfold bG
          omega
        · cases hli : liL x dir with
          | nil => simp
          | cons a r =>
            have ha : a ∈ liL x dir := by rw [hli]; simp
            obtain ⟨hp2, e, -⟩ := li_names hx ha
            rw [← hli, e]
            have hnd : (namesR x dir).Nodup := rise_nodup (fold_put_rise _ _ List.Pairwise.nil)
            have hm : ∀ b, b ∈ namesR x dir ↔ (kd x (nms dir ++ [b])).isSome = true := fun b => by
              unfold namesR
              rw [fold_put_mem, mem_lasts hx hp2]
              simp
            rw [← (below_perm hx hnd hm).length_eq]
            have := below_from x (nms dir)
            unfold bG
            omega
      refine ⟨Nat.le_trans key ?_, key⟩
      dsimp only
      rw [Nat.add_comm, Nat.pow_succ, Nat.mul_comm]
      exact Nat.mul_le_mul_left _ (hM _)
/-- Of few files and a short pattern there are less than 2^40. -/
theorem globG_len {x : List Fl} (hx : RowF x) (h20 : x.length ≤ 20) {dir p : List UInt8} (hp : p.length ≤ 40) : (globG x dir p).length ≤ 1099511627776 := by
  unfold globG
  split
  · simp
  · rename_i h
    have hd : pathB dir = true := by
      cases e : pathB dir with
      | true => rfl
      | false => exact absurd (.inr e) h
    have hM : ∀ ks, bG x ks ≤ 20 := fun ks => by
      unfold bG fromL
      have := List.length_filter_le (fun f : Fl => ks.isPrefixOf (nms f.path)) x
      omega
    have hu := (uv_wt (partsG p)).1
    have hw := wt_parts p
    refine Nat.le_trans (walkG_len hx 20 hM (partsG p) [] _ (by split; decide +kernel; exact hd) (partsG_no p)).1 ?_
    exact Nat.le_trans (Nat.pow_le_pow_right (by decide) (show (uvG (partsG p)).1 ≤ 8 by omega)) (by decide)
end Go.Proofs.YtnecmpgcjgkheaaGreat.Glob
