/-
  The line of a spec, plainly: what it splits into, and what is read of it. No program in sight.
-/
import Derived.Test.YtadaeecokkokjaaGreatDoorLinePlain
import Derived.Test.YtadaeecokkokjaaGreatDoorSpecD
set_option linter.unusedSimpArgs false
set_option linter.unusedVariables false
namespace Go.Proofs.YtadaeecokkokjaaGreatDoor.Spc
open Cls Md Mc Pa Li Lx Quo
set_option linter.unusedSimpArgs false
set_option linter.unusedVariables false
set_option maxRecDepth 100000
theorem esc_safe : ∀ {s : List UInt8}, s.all safeB = true → s.flatMap Quo.escB = s
  | [], _ => rfl
  | c :: r, h => by
    rw [List.all_cons, Bool.and_eq_true] at h
    obtain ⟨h1, h35, h32, h9, h10⟩ : safeB c = true ∧ c ≠ 35 ∧ c ≠ 32 ∧ c ≠ 9 ∧ True := by
      obtain ⟨a, b, d, e, f⟩ := safe_no c h.1
      exact ⟨h.1, b, d, e, trivial⟩
    have hn : ¬ c = 10 := by
      rintro rfl
      exact absurd h1 (by decide)
    rw [List.flatMap_cons, esc_safe h.2]
    unfold Quo.escB
    rw [if_neg hn, if_pos h1]
    rfl
/-- A text of safe bytes is a word that means itself. -/
theorem good_safe {s : List UInt8} (hs : s.all safeB = true) (h0 : s ≠ []) : GoodW s s := by
  have hl := leads_flat leads_esc s first rfl 0
  rw [esc_safe hs] at hl
  have he : ∀ bh, (∀ y, Is y [84] → ∀ i, endFrom y i bh = i) → endFrom first 0 (s ++ bh) = s.length := fun bh hb => by
    rw [endFrom_thru hl.1, hb _ hl.2, Nat.zero_add]
  constructor
  · cases s with
    | nil => exact absurd rfl h0
    | cons c t =>
      rw [List.all_cons, Bool.and_eq_true] at hs
      obtain ⟨_, h35, h32, h9, _⟩ := safe_no c hs.1
      refine ⟨c, t, rfl, h35, ?_⟩
      have := byte_all (P := fun b => !(safeB b) || !(blankB b)) (by decide +kernel) c
      rw [hs.1] at this
      simpa using this
  · refine ⟨?_, fun r => he (32 :: r) fun y hy i => stop_blank hy i r⟩
    have := he [] fun y _ i => rfl
    rwa [List.append_nil] at this
  · have hr := hl.2
    obtain ⟨q, f, e⟩ := is_T hr
    have : run s = ⟨[(84, q)], f⟩ := e
    rw [this]
    rfl
  · have h1 := value_segs (s.map Seg.bt) (fun g hg => by
      obtain ⟨b, hb, rfl⟩ := List.mem_map.1 hg
      exact safe_top b (List.all_eq_true.1 hs b hb))
    have e1 : segT (s.map Seg.bt) = s := by
      unfold segT
      rw [List.flatMap_map]
      show s.flatMap (fun b => [b]) = s
      induction s with
      | nil => rfl
      | cons a r ih => rw [List.flatMap_cons]; simp
    have e2 : segV (s.map Seg.bt) = s := by
      unfold segV
      rw [List.flatMap_map]
      show s.flatMap (fun b => [b]) = s
      induction s with
      | nil => rfl
      | cons a r ih => rw [List.flatMap_cons]; simp
    rwa [e1, e2] at h1
theorem good_may {s : List UInt8} (h : spMay s = true) : GoodW s s := by
  unfold spMay at h
  rw [Bool.or_eq_true, Bool.or_eq_true, Bool.and_eq_true] at h
  rcases h with (h | h) | ⟨h, _⟩
  · have : s = [45, 68] := by simpa using h
    subst this
    exact good_safe (by decide) (by simp)
  · have : s = [45, 69] := by simpa using h
    subst this
    exact good_safe (by decide) (by simp)
  · have hw : wordB s = true := h
    unfold wordB at hw
    rw [Bool.and_eq_true] at hw
    refine good_safe ?_ (fun e => by rw [e] at hw; simp at hw)
    rw [List.all_eq_true] at hw ⊢
    intro c hc
    have := hw.2 c hc
    rw [Bool.and_eq_true] at this
    exact this.1
def optW (o t : List UInt8) : List (List UInt8 × List UInt8) := if t = [] then [] else [(o, o), (shortL t, t)]
/-- The words of a spec's line, with what they mean. -/
def wordsOf (n : List UInt8) (x : Sp) : List (List UInt8 × List UInt8) :=
  (cmpl, cmpl) :: ((x.a.flatMap fun a => [([45, 65], [45, 65]), (actNm a.toNat, actNm a.toNat)]) ++ ((if x.w = [] then [] else [([45, 87], [45, 87]), (shortL (lineL x.w), lineL x.w)]) ++ (optW [45, 71] x.g ++ (optW [45, 88] x.x ++ (optW [45, 80] x.p ++ (optW [45, 83] x.s ++ [(n, n)]))))))
/-- A spec's line. -/
def writeL (n : List UInt8) (x : Sp) : List UInt8 := joinB ((wordsOf n x).map (·.1))
/-- Actions that are known and rise. -/
theorem rises_known {z : Int} {l : List Int} (h : risesB z l = true) : (∀ a ∈ l, z < a ∧ a ≤ 7) ∧ l.Pairwise (· < ·) := by
  induction l generalizing z with
  | nil => exact ⟨fun a ha => (by cases ha), List.Pairwise.nil⟩
  | cons b r ih =>
    rw [risesB] at h
    split at h
    · cases h
    split at h
    · cases h
    rename_i h1 h2
    obtain ⟨i1, i2⟩ := ih h
    refine ⟨fun a ha => ?_, List.pairwise_cons.2 ⟨fun a ha => (i1 a ha).1, i2⟩⟩
    rcases List.mem_cons.1 ha with rfl | ha
    · omega
    · have := i1 a ha; omega
theorem act_good : ∀ n : Fin 8, n.val = 0 ∨ ((actNm n.val).all safeB = true ∧ actNm n.val ≠ [] ∧ actK (actNm n.val) = n.val) := by decide +kernel
theorem opt_good (o t : List UInt8) (ho : GoodW o o) : ∀ p ∈ optW o t, GoodW p.1 p.2 := by
  intro p hp
  unfold optW at hp
  split at hp
  · cases hp
  · rcases List.mem_cons.1 hp with rfl | hp
    · exact ho
    · rw [List.mem_singleton] at hp
      subst hp
      exact good_short t
theorem words_good {n : List UInt8} {x : Sp} (hn : spMay n = true) (hx : risesB 0 x.a = true) : ∀ p ∈ wordsOf n x, GoodW p.1 p.2 := by
  intro p hp
  unfold wordsOf at hp
  simp only [List.mem_cons, List.mem_append] at hp
  rcases hp with rfl | hp | hp | hp | hp | hp | hp | hp
  · exact good_safe (by decide) (by decide)
  · obtain ⟨a, ha, hp⟩ := List.mem_flatMap.1 hp
    have h1 := (rises_known hx).1 a ha
    rcases List.mem_cons.1 hp with rfl | hp
    · exact good_safe (by decide) (by decide)
    · rw [List.mem_singleton] at hp
      subst hp
      rcases act_good ⟨a.toNat, by omega⟩ with h2 | ⟨h2, h3, _⟩
      · simp only at h2; omega
      · exact good_safe h2 h3
  · split at hp
    · cases hp
    · rcases List.mem_cons.1 hp with rfl | hp
      · exact good_safe (by decide) (by decide)
      · rw [List.mem_singleton] at hp
        subst hp
        exact good_short _
  · exact opt_good _ _ (good_safe (by decide) (by decide)) p hp
  · exact opt_good _ _ (good_safe (by decide) (by decide)) p hp
  · exact opt_good _ _ (good_safe (by decide) (by decide)) p hp
  · exact opt_good _ _ (good_safe (by decide) (by decide)) p hp
  · rcases hp with rfl | hp
    · exact good_may hn
    · cases hp
theorem split_write {n : List UInt8} {x : Sp} (hn : spMay n = true) (hx : risesB 0 x.a = true) : splitL (writeL n x) = ((wordsOf n x).map (·.2), 0, 0) :=
  split_line (wordsOf n x) (words_good hn hx)
/-- The options of a spec's line. -/
def optV (o t : List UInt8) : List (List UInt8 × List UInt8) := if t = [] then [] else [(o, t)]
def optsOf (x : Sp) : List (List UInt8 × List UInt8) :=
  (x.a.map fun a => ([45, 65], actNm a.toNat)) ++ ((if x.w = [] then [] else [([45, 87], lineL x.w)]) ++ (optV [45, 71] x.g ++ (optV [45, 88] x.x ++ (optV [45, 80] x.p ++ optV [45, 83] x.s))))
def flatP (l : List (List UInt8 × List UInt8)) : List (List UInt8) := l.flatMap fun p => [p.1, p.2]
theorem pair_flat : ∀ l : List (List UInt8 × List UInt8), pairL (flatP l) = l
  | [] => rfl
  | p :: r => by
    show pairL (p.1 :: p.2 :: flatP r) = _
    rw [pairL, pair_flat r]
theorem flatP_len : ∀ l : List (List UInt8 × List UInt8), (flatP l).length = 2 * l.length
  | [] => rfl
  | p :: r => by
    show (p.1 :: p.2 :: flatP r).length = _
    rw [List.length_cons, List.length_cons, flatP_len r, List.length_cons]
    omega
theorem optW_flat (o t : List UInt8) : (optW o t).map (·.2) = flatP (optV o t) := by
  unfold optW optV
  split <;> rfl
theorem words_val (n : List UInt8) (x : Sp) : (wordsOf n x).map (·.2) = cmpl :: (flatP (optsOf x) ++ [n]) := by
  unfold wordsOf optsOf
  have ha : ∀ l : List Int, (l.flatMap fun a => [(([45, 65] : List UInt8), ([45, 65] : List UInt8)), (actNm a.toNat, actNm a.toNat)]).map (·.2) = flatP (l.map fun a => ([45, 65], actNm a.toNat)) := by
    intro l
    induction l with
    | nil => rfl
    | cons a r ih =>
      rw [List.flatMap_cons, List.map_append, ih, List.map_cons]
      rfl
  have hf : ∀ a b : List (List UInt8 × List UInt8), flatP (a ++ b) = flatP a ++ flatP b := fun a b => by unfold flatP; rw [List.flatMap_append]
  have hw : (if x.w = [] then [] else [(([45, 87] : List UInt8), ([45, 87] : List UInt8)), (shortL (lineL x.w), lineL x.w)]).map (·.2) = flatP (if x.w = [] then [] else [([45, 87], lineL x.w)]) := by
    split <;> rfl
  rw [List.map_cons, List.map_append, List.map_append, List.map_append, List.map_append, List.map_append, List.map_append, ha, hw, optW_flat, optW_flat, optW_flat, optW_flat, hf, hf, hf, hf, hf]
  simp only [List.append_assoc, List.map_cons, List.map_nil]
theorem takesL_app (x : Sp) (S : List (List UInt8)) (l t : List (List UInt8 × List UInt8)) (h : (takesL x S l).1 = 0) : takesL x S (l ++ t) = takesL (takesL x S l).2.1 (takesL x S l).2.2 t := by
  induction l generalizing x S with
  | nil => rfl
  | cons a r ih =>
    rw [takesL] at h
    rw [List.cons_append, takesL, takesL]
    by_cases h1 : (takeL x S a.1 a.2).1 ≠ 0
    · rw [if_pos h1] at h; exact (h1 h).elim
    · rw [if_neg h1] at h ⊢
      rw [if_neg h1]
      exact ih _ _ h
theorem take_act (y : Sp) (S : List (List UInt8)) (a : Int) (h1 : 1 ≤ a) (h7 : a ≤ 7) (hn : ∀ c ∈ y.a, c < a) : takeL y S [45, 65] (actNm a.toNat) = (0, { y with a := y.a ++ [a] }, S) := by
  have hk : (actK (actNm a.toNat) : Int) = a := by
    rcases act_good ⟨a.toNat, by omega⟩ with h2 | ⟨_, _, h2⟩
    · simp only at h2; omega
    · simp only at h2; omega
  have hi : insA y.a a = y.a ++ [a] := by
    unfold insA
    have : y.a.countP (· < a) = y.a.length := List.countP_eq_length.2 (fun c hc => by simpa using hn c hc)
    rw [this, List.take_length, List.drop_length]
  have hc : y.a.contains a = false := by
    cases h : y.a.contains a
    · rfl
    · have := hn a (by simpa using h); omega
  unfold takeL
  rw [if_pos rfl]
  unfold actL
  rw [if_neg (by omega), hk, hc, if_neg (by simp), hi]
theorem takes_acts : ∀ (l : List Int) (y : Sp) (S : List (List UInt8)), (∀ a ∈ l, 1 ≤ a ∧ a ≤ 7) → (y.a ++ l).Pairwise (· < ·) → takesL y S (l.map fun a => ([45, 65], actNm a.toNat)) = (0, { y with a := y.a ++ l }, S)
  | [], y, S, _, _ => by simp [takesL]
  | a :: r, y, S, h, hp => by
    have h1 := h a (by simp)
    have h2 : ∀ c ∈ y.a, c < a := fun c hc => (List.pairwise_append.1 hp).2.2 c hc a (by simp)
    have h3 := take_act y S a h1.1 h1.2 h2
    rw [List.map_cons, takesL]
    simp only [h3]
    rw [if_neg (by simp), takes_acts r { y with a := y.a ++ [a] } S (fun c hc => h c (List.mem_cons_of_mem _ hc)) (by simpa using hp)]
    simp
theorem takes_opt (y : Sp) (S : List (List UInt8)) (o t : List UInt8) (n : Nat) (ho : o ≠ [45, 65]) (h : optF o = some n) (hS : o ∉ S) (hy : setF y n [] = y) : ∃ S', takesL y S (optV o t) = (0, setF y n t, S') ∧ ∀ q ∈ S', q ∈ S ∨ q = o := by
  unfold optV
  by_cases h0 : t = []
  · rw [if_pos h0, h0, hy]
    exact ⟨S, rfl, fun q hq => .inl hq⟩
  · rw [if_neg h0, takesL]
    have : takeL y S o t = (0, setF y n t, o :: S) := by
      unfold takeL
      rw [if_neg ho, h]
      simp only
      rw [if_neg hS]
    simp only [this]
    rw [if_neg (by simp), takesL]
    refine ⟨o :: S, rfl, fun q hq => ?_⟩
    rcases List.mem_cons.1 hq with rfl | hq
    · exact .inr rfl
    · exact .inl hq
theorem takes_words (y : Sp) (S : List (List UInt8)) (l : List (List UInt8)) (hS : ([45, 87] : List UInt8) ∉ S) (hy : y.w = []) : ∃ S', takesL y S (if l = [] then [] else [([45, 87], lineL l)]) = (0, { y with w := l }, S') ∧ ∀ q ∈ S', q ∈ S ∨ q = [45, 87] := by
  by_cases h0 : l = []
  · rw [if_pos h0, h0]
    refine ⟨S, ?_, fun q hq => .inl hq⟩
    obtain ⟨a, w, g, x, p, s⟩ := y
    dsimp only at hy
    subst hy
    rfl
  · rw [if_neg h0, takesL]
    have : takeL y S [45, 87] (lineL l) = (0, { y with w := l }, [45, 87] :: S) := by
      unfold takeL
      rw [if_neg (by decide), show optF [45, 87] = none by decide]
      simp only
      rw [if_neg (by simp), if_neg hS, split_lineL, if_neg (by simp)]
    simp only [this]
    rw [if_neg (by simp), takesL]
    refine ⟨[45, 87] :: S, rfl, fun q hq => ?_⟩
    rcases List.mem_cons.1 hq with rfl | hq
    · exact .inr rfl
    · exact .inl hq
theorem takes_all (x : Sp) (hx : risesB 0 x.a = true) : (takesL sp0 [] (optsOf x)).1 = 0 ∧ (takesL sp0 [] (optsOf x)).2.1 = x := by
  obtain ⟨hk, hp⟩ := rises_known hx
  have h1 := takes_acts x.a sp0 [] (fun a ha => by have := hk a ha; omega) (by simpa [sp0] using hp)
  unfold optsOf
  rw [takesL_app _ _ _ _ (by rw [h1])]
  simp only [h1]
  obtain ⟨S2, h2, m2⟩ := takes_words { sp0 with a := sp0.a ++ x.a } [] x.w (by simp) rfl
  rw [takesL_app _ _ _ _ (by rw [h2])]
  simp only [h2]
  obtain ⟨S3, h3, m3⟩ := takes_opt { sp0 with a := sp0.a ++ x.a, w := x.w } S2 [45, 71] x.g 2 (by decide) (by decide) (fun h => by rcases m2 _ h with h | h <;> simp at h) rfl
  have e3 : ∀ q ∈ S3, q = [45, 87] ∨ q = [45, 71] := fun q hq => by
    rcases m3 q hq with h | h
    · rcases m2 q h with h | h
      · cases h
      · exact .inl h
    · exact .inr h
  rw [takesL_app _ _ _ _ (by rw [h3])]
  simp only [h3]
  obtain ⟨S4, h4, m4⟩ := takes_opt (setF { sp0 with a := sp0.a ++ x.a, w := x.w } 2 x.g) S3 [45, 88] x.x 3 (by decide) (by decide) (fun h => by rcases e3 _ h with h | h <;> simp at h) rfl
  have e4 : ∀ q ∈ S4, q = [45, 87] ∨ q = [45, 71] ∨ q = [45, 88] := fun q hq => by
    rcases m4 q hq with h | h
    · rcases e3 q h with h | h
      · exact .inl h
      · exact .inr (.inl h)
    · exact .inr (.inr h)
  rw [takesL_app _ _ _ _ (by rw [h4])]
  simp only [h4]
  obtain ⟨S5, h5, m5⟩ := takes_opt (setF (setF { sp0 with a := sp0.a ++ x.a, w := x.w } 2 x.g) 3 x.x) S4 [45, 80] x.p 4 (by decide) (by decide) (fun h => by rcases e4 _ h with h | h | h <;> simp at h) rfl
  have e5 : ∀ q ∈ S5, q = [45, 87] ∨ q = [45, 71] ∨ q = [45, 88] ∨ q = [45, 80] := fun q hq => by
    rcases m5 q hq with h | h
    · rcases e4 q h with h | h | h
      · exact .inl h
      · exact .inr (.inl h)
      · exact .inr (.inr (.inl h))
    · exact .inr (.inr (.inr h))
  rw [takesL_app _ _ _ _ (by rw [h5])]
  simp only [h5]
  obtain ⟨S6, h6, m6⟩ := takes_opt (setF (setF (setF { sp0 with a := sp0.a ++ x.a, w := x.w } 2 x.g) 3 x.x) 4 x.p) S5 [45, 83] x.s 5 (by decide) (by decide) (fun h => by rcases e5 _ h with h | h | h | h <;> simp at h) rfl
  rw [h6]
  exact ⟨rfl, rfl⟩
/-- What is written of a right spec is read as it was. -/
theorem read_write {n : List UInt8} {x : Sp} (hn : spMay n = true) (hx : goodB x = true) : readL (writeL n x) = (n, x, 0) := by
  have hr : risesB 0 x.a = true := by
    unfold goodB at hx
    simp only [Bool.and_eq_true] at hx
    exact hx.1.1.1
  obtain ⟨t1, t2⟩ := takes_all x hr
  have hw := words_val n x
  unfold readL
  rw [split_write hn hr]
  simp only
  rw [hw]
  have hl : (cmpl :: (flatP (optsOf x) ++ [n])).length = 2 * (optsOf x).length + 2 := by
    rw [List.length_cons, List.length_append, flatP_len]; rfl
  have hp : pairsOf (cmpl :: (flatP (optsOf x) ++ [n])) = optsOf x := by
    unfold pairsOf
    rw [hl, List.drop_one, List.tail_cons, Nat.add_sub_cancel, ← flatP_len, List.take_left, pair_flat]
  have hla : lastN (cmpl :: (flatP (optsOf x) ++ [n])) = n := by
    unfold lastN
    rw [← List.cons_append, List.getLast?_append]
    rfl
  unfold readW
  rw [if_neg (by rw [hl]; simp), hp, if_neg (by rw [t1]; simp), t2, hx, if_neg (by simp), hla, hn]
  rfl
end Go.Proofs.YtadaeecokkokjaaGreatDoor.Spc
