/-
  Closed forms are words (layer 17), plainly, on: what stands at a closed form's head; the tokens of a closed form with a little behind it; no closed form is a reserved word. No program in sight.
-/
import Derived.Test.YtljinmfkogmmlaaDoorLex4
import Derived.Test.YtljinmfkogmmlaaDoorWordPlain
namespace Go.Proofs.YtljinmfkogmmlaaDoor.Lx
open Cls Md Quo
/-- What stands at a closed form's head. -/
def Head (w : List UInt8) : Prop := ∃ c t, w = c :: t ∧ ((c = 39 ∨ c = 34) ∨ (c = 92 ∧ ∃ d t', t = d :: t' ∧ d ≠ 10) ∨
  (safeB c = true ∧ resB w = false ∧ ∃ p d t', w = p ++ d :: t' ∧ (∀ b ∈ p, digitB b = true) ∧ digitB d = false ∧ d ≠ 60 ∧ d ≠ 62))
theorem byte_all {P : UInt8 → Bool} (h : ∀ n : Fin 256, P (UInt8.ofNat n.val) = true) (b : UInt8) : P b = true := by
  have := h ⟨b.toNat, b.toNat_lt⟩
  simpa using this
theorem digit_safe (b : UInt8) (h : digitB b = true) : safeB b = true ∧ b ≠ 10 := by
  have := byte_all (P := fun b => !digitB b || (safeB b && b != 10)) (by decide +kernel) b
  simpa [h] using this
theorem safe_no (b : UInt8) (h : safeB b = true) : b ≠ 10 ∧ b ≠ 35 ∧ b ≠ 32 ∧ b ≠ 9 ∧ b ≠ 92 ∧ b ≠ 60 ∧ b ≠ 62 ∧ b ≠ 38 ∧ b ≠ 124 ∧ b ≠ 59 ∧ b ≠ 40 ∧ b ≠ 41 := by
  have := byte_all (P := fun b => !safeB b || (b != 10 && b != 35 && b != 32 && b != 9 && b != 92 && b != 60 && b != 62 && b != 38 && b != 124 && b != 59 && b != 40 && b != 41)) (by decide +kernel) b
  simpa [h, and_assoc] using this
theorem escB_safe {b : UInt8} (h : safeB b = true) : escB b = [b] := by
  unfold escB
  rw [if_neg (safe_no b h).1, if_pos h]
theorem escB_un {b : UInt8} (h : safeB b = false) : escB b = [39, 10, 39] ∨ (b ≠ 10 ∧ escB b = [92, b]) := by
  unfold escB
  by_cases h1 : b = 10
  · rw [if_pos h1]; exact .inl rfl
  · rw [if_neg h1, if_neg (by rw [h]; simp)]; exact .inr ⟨h1, rfl⟩
theorem esc_split : ∀ s : List UInt8, s.all digitB = false → ∃ p d t', s.flatMap escB = p ++ d :: t' ∧ (∀ b ∈ p, digitB b = true) ∧ digitB d = false ∧ d ≠ 60 ∧ d ≠ 62
  | [], h => by simp at h
  | b :: l, h => by
    cases hb : digitB b with
    | true =>
      rw [List.all_cons, hb, Bool.true_and] at h
      obtain ⟨p, d, t', h1, h2, h3⟩ := esc_split l h
      refine ⟨b :: p, d, t', ?_, fun c hc => ?_, h3⟩
      · rw [List.flatMap_cons, escB_safe (digit_safe b hb).1, h1]; rfl
      · rcases List.mem_cons.1 hc with rfl | hc
        · exact hb
        · exact h2 c hc
    | false =>
      rw [List.flatMap_cons]
      cases hs : safeB b with
      | true =>
        rw [escB_safe hs]
        exact ⟨[], b, l.flatMap escB, rfl, by simp, hb, (safe_no b hs).2.2.2.2.2.1, (safe_no b hs).2.2.2.2.2.2.1⟩
      | false =>
        rcases escB_un hs with e | ⟨_, e⟩
        · rw [e]; exact ⟨[], 39, 10 :: 39 :: l.flatMap escB, rfl, by simp, by decide +kernel, by decide, by decide⟩
        · rw [e]; exact ⟨[], 92, b :: l.flatMap escB, rfl, by simp, by decide +kernel, by decide, by decide⟩
theorem esc_same : ∀ s : List UInt8, 39 ∉ s.flatMap escB → 92 ∉ s.flatMap escB → s.flatMap escB = s
  | [], _, _ => rfl
  | b :: l, h1, h2 => by
    rw [List.flatMap_cons] at h1 h2 ⊢
    simp only [List.mem_append, not_or] at h1 h2
    cases hs : safeB b with
    | true => rw [escB_safe hs, esc_same l h1.2 h2.2]; rfl
    | false =>
      rcases escB_un hs with e | ⟨_, e⟩
      · rw [e] at h1; exact absurd h1.1 (by simp)
      · rw [e] at h2; exact absurd h2.1 (by simp)
theorem res_no {w : List UInt8} (h : resB w = true) : 39 ∉ w ∧ 92 ∉ w ∧ 34 ∉ w := by
  have h2 : ∀ x ∈ resL, 39 ∉ x ∧ 92 ∉ x ∧ 34 ∉ x := by decide +kernel
  exact h2 w (List.contains_iff_mem.1 h)
theorem head_pln (s : List UInt8) : Head (plnL s) := by
  unfold plnL
  by_cases h0 : s = []
  · rw [if_pos h0]; exact ⟨39, [39], rfl, .inl (.inl rfl)⟩
  rw [if_neg h0]
  obtain ⟨b, l, rfl⟩ := List.exists_cons_of_ne_nil h0
  cases hs : safeB b with
  | false =>
    have e : headL (b :: l) = [] := by unfold headL; rw [if_neg (by simp [hs])]
    rw [e, List.nil_append, List.flatMap_cons]
    rcases escB_un hs with e | ⟨h1, e⟩
    · rw [e]; exact ⟨39, _, rfl, .inl (.inl rfl)⟩
    · rw [e]; exact ⟨92, _, rfl, .inr (.inl ⟨rfl, b, _, rfl, h1⟩)⟩
  | true =>
    cases hr : riskB (b :: l) with
    | true =>
      have e : headL (b :: l) = [92] := by unfold headL; rw [if_pos (by simp [hs, hr])]
      rw [e, List.flatMap_cons, escB_safe hs]
      exact ⟨92, _, rfl, .inr (.inl ⟨rfl, b, _, rfl, (safe_no b hs).1⟩)⟩
    | false =>
      have e : headL (b :: l) = [] := by unfold headL; rw [if_neg (by simp [hr])]
      rw [e, List.nil_append]
      unfold riskB at hr
      rw [Bool.or_eq_false_iff] at hr
      obtain ⟨r1, r2⟩ := hr
      have r3 : (b :: l).all digitB = false := by
        rw [Bool.and_eq_false_iff] at r2
        rcases r2 with r | r
        · simp at r
        · exact r
      refine ⟨b, l.flatMap escB, by rw [List.flatMap_cons, escB_safe hs]; rfl, .inr (.inr ⟨hs, ?_, esc_split _ r3⟩)⟩
      cases hq : resB ((b :: l).flatMap escB) with
      | false => rfl
      | true =>
        have h3 := res_no hq
        rw [esc_same _ h3.1 h3.2.1, r1] at hq
        cases hq
theorem head_enc (s : List UInt8) (state : Int) : Head (encL s state true) := by
  unfold encL
  split
  · exact ⟨39, _, rfl, .inl (.inl rfl)⟩
  · split
    · exact ⟨34, _, rfl, .inl (.inr rfl)⟩
    · exact head_pln s
theorem enc_no_res (s : List UInt8) (state : Int) : resB (encL s state true) = false := by
  obtain ⟨c, t, e, h⟩ := head_enc s state
  cases hq : resB (encL s state true) with
  | false => rfl
  | true =>
    have h3 := res_no hq
    rw [e] at h3
    rcases h with (rfl | rfl) | ⟨rfl, _⟩ | ⟨_, h, _⟩
    · exact absurd (List.mem_cons_self) h3.1
    · exact absurd (List.mem_cons_self) h3.2.2
    · exact absurd (List.mem_cons_self) h3.2.1
    · rw [h] at hq; cases hq
theorem blank_head {c : UInt8} {l : List UInt8} (h1 : c ≠ 32) (h2 : c ≠ 9) (h3 : c = 92 → ∃ d t, l = d :: t ∧ d ≠ 10) : blankN (c :: l) = 0 := by
  cases l with
  | nil => unfold blankN; rw [if_neg (by simp [h1, h2])]
  | cons d t =>
    unfold blankN
    rw [if_neg (by simp [h1, h2]), if_neg]
    rintro ⟨q1, q2⟩
    obtain ⟨_, _, e, q3⟩ := h3 q1
    cases e
    exact q3 q2
theorem op_head {c : UInt8} (h : c ∉ [38, 124, 59, 60, 62, 40, 41]) (l : List UInt8) : ∀ n, n ≤ 17 → opK (c :: l) n = 0
  | 0, _ => rfl
  | n + 1, hn => by
    have ha : ∀ k ∈ List.range 17, ∃ f ∈ ([38, 124, 59, 60, 62, 40, 41] : List UInt8), (opT (k + 1)).head? = some f := by decide +kernel
    obtain ⟨f, hf, e⟩ := ha n (List.mem_range.2 (by omega))
    unfold opK
    rw [op_head h l n (by omega), if_neg]
    intro q
    simp only [Bool.and_eq_true, beq_iff_eq] at q
    have q2 := q.1.2
    cases ho : opT (n + 1) with
    | nil => rw [ho] at e; cases e
    | cons f' t =>
      rw [ho] at e q2
      simp only [List.head?_cons, Option.some.injEq] at e
      simp only [List.length_cons, List.take_succ_cons, List.cons.injEq] at q2
      rw [q2.1, e] at h
      exact h hf
theorem span_head {p : List UInt8} (hp : ∀ b ∈ p, digitB b = true) {d : UInt8} (hd : digitB d = false) (t : List UInt8) : spanN digitB (p ++ d :: t) = p.length := by
  induction p with
  | nil => simp [spanN, hd]
  | cons b p ih =>
    have h1 := hp b (List.mem_cons_self)
    have h2 := ih fun c hc => hp c (List.mem_cons_of_mem _ hc)
    unfold spanN at h2 ⊢
    simp [h1, h2]
theorem get_drop {S : List UInt8} {a : Nat} {c : UInt8} {l : List UInt8} (h : S.drop a = c :: l) : ∃ ha : a < S.length, S[a] = c := by
  have ha : a < S.length := by
    have := congrArg List.length h
    simp at this
    omega
  refine ⟨ha, ?_⟩
  rw [List.drop_eq_getElem_cons ha] at h
  exact (List.cons.inj h).1
/-- What stands behind the closed form. -/
def behL : List (List UInt8) := [[], [32, 97], [10], [59], [60, 98], [62], [41]]
theorem len_drop {S : List UInt8} {a : Nat} {l : List UInt8} (h : S.drop a = l) (hl : l ≠ []) : S.length = a + l.length := by
  have := congrArg List.length h
  rw [List.length_drop] at this
  have := List.length_pos_iff.2 hl
  omega
theorem tok_word {S : List UInt8} {a : Nat} {c : UInt8} {l : List UInt8} (h : S.drop a = c :: l) (hb : blankN (c :: l) = 0) (h10 : c ≠ 10) (h35 : c ≠ 35) (ho : opL (c :: l) = 0)
    (hd : ∀ d t, (c :: l).drop (spanN digitB (c :: l)) = d :: t → 0 < spanN digitB (c :: l) → d ≠ 60 ∧ d ≠ 62) {m : Nat} (hm : endN S a = m) (h1 : a < m) (h2 : m ≤ S.length) {o : Bool}
    (hoo : o = !(lets (run ((S.take m).drop a)).l == [84] || lets (run ((S.take m).drop a)).l == [84, 76])) : TokAt S ⟨6, a, m, o⟩ := by
  obtain ⟨ha, hc⟩ := get_drop h
  subst hm
  refine ⟨h1, h2, ha, .inr (.inr (.inr ?_))⟩
  dsimp only
  rw [h, hc]
  refine ⟨hb, h10, h35, ho, fun q q2 => ?_, rfl, rfl, hoo⟩
  refine hd _ (S.drop (a + spanN digitB (c :: l) + 1)) ?_ q2
  generalize spanN digitB (c :: l) = n at *
  rw [← h, List.drop_drop, List.drop_eq_getElem_cons q]
theorem tok_blank {S : List UInt8} {a : Nat} {l : List UInt8} (h : S.drop a = l) {m : Nat} (hb : blankN l = m) (h0 : 0 < m) : TokAt S ⟨1, a, a + m, false⟩ := by
  subst h hb
  have h1 := blankN_le (S.drop a)
  rw [List.length_drop] at h1
  exact ⟨by dsimp only; omega, by dsimp only; omega, by dsimp only; omega, .inl ⟨h0, rfl, rfl, rfl⟩⟩
theorem tok_line {S : List UInt8} {a : Nat} {l : List UInt8} (h : S.drop a = 10 :: l) : TokAt S ⟨2, a, a + 1, false⟩ := by
  obtain ⟨ha, hc⟩ := get_drop h
  refine ⟨by dsimp only; omega, by dsimp only; omega, ha, .inr (.inl ?_)⟩
  dsimp only
  rw [h]
  exact ⟨blank_head (by decide) (by decide) (fun q => absurd q (by decide)), hc, rfl, rfl, rfl⟩
theorem tok_op {S : List UInt8} {a : Nat} {c : UInt8} {l : List UInt8} (h : S.drop a = c :: l) (hb : blankN (c :: l) = 0) (h10 : c ≠ 10) (h35 : c ≠ 35) {k : Nat} (hk : opL (c :: l) = k) (k0 : k ≠ 0) (k4 : k ≠ 4) (k5 : k ≠ 5) {m : Nat} (hm : (opT k).length = m) (m0 : 0 < m) (m1 : m ≤ (c :: l).length) : TokAt S ⟨4, a, a + m, false⟩ := by
  obtain ⟨ha, hc⟩ := get_drop h
  have hl := len_drop h (by simp)
  subst hm hk
  refine ⟨by dsimp only; omega, by dsimp only; omega, ha, .inr (.inr (.inl ?_))⟩
  dsimp only
  rw [h, hc]
  exact ⟨hb, h10, h35, k0, k4, k5, rfl, rfl, rfl⟩
theorem drop_beh (w bh : List UInt8) (j : Nat) : (w ++ bh).drop (w.length + j) = bh.drop j := by
  rw [List.drop_append]
  simp
theorem ends_beh {bh : List UInt8} (h : bh ∈ behL) : ∀ y, Is y [84] → ∀ i, endFrom y i bh = i := by
  intro y hy i
  cases bh with
  | nil => rfl
  | cons c l =>
    have h2 : ∀ x ∈ behL, x.all (fun _ => true) = true → (x = [] ∨ (x.head?.map endsB) = some true) := by decide +kernel
    have h3 := (h2 _ h (by simp)).resolve_left (by simp)
    simp only [List.head?_cons, Option.map_some, Option.some.injEq] at h3
    unfold endFrom
    rw [if_pos]
    unfold stopB
    rw [h3, lets_is hy]
    rfl
theorem tok_enc (s : List UInt8) (state : Int) {bh : List UInt8} (h : bh ∈ behL) : TokAt (encL s state true ++ bh) ⟨6, 0, (encL s state true).length, false⟩ := by
  have he := endN_enc s state bh (ends_beh h)
  have hr := run_enc s state
  obtain ⟨c, t, e, hh⟩ := head_enc s state
  generalize encL s state true = w at *
  subst e
  have g : c ≠ 10 ∧ c ≠ 35 ∧ c ≠ 32 ∧ c ≠ 9 ∧ c ∉ ([38, 124, 59, 60, 62, 40, 41] : List UInt8) ∧ (c = 92 → ∃ d t', t ++ bh = d :: t' ∧ d ≠ 10) := by
    rcases hh with (rfl | rfl) | ⟨rfl, d, t', rfl, h1⟩ | ⟨h1, _⟩
    · exact ⟨by decide, by decide, by decide, by decide, by decide, fun q => absurd q (by decide)⟩
    · exact ⟨by decide, by decide, by decide, by decide, by decide, fun q => absurd q (by decide)⟩
    · exact ⟨by decide, by decide, by decide, by decide, by decide, fun _ => ⟨d, t' ++ bh, rfl, h1⟩⟩
    · obtain ⟨q1, q2, q3, q4, q5, q6⟩ := safe_no c h1
      exact ⟨q1, q2, q3, q4, by simp only [List.mem_cons, List.not_mem_nil, or_false, not_or]; exact ⟨q6.2.2.1, q6.2.2.2.1, q6.2.2.2.2.1, q6.1, q6.2.1, q6.2.2.2.2.2.1, q6.2.2.2.2.2.2⟩, fun q => absurd q q5⟩
  obtain ⟨g1, g2, g3, g4, g5, g6⟩ := g
  refine tok_word (c := c) (l := t ++ bh) rfl (blank_head g3 g4 g6) g1 g2 (op_head g5 _ 17 (Nat.le_refl _)) ?_ he (by simp) (by simp) ?_
  · intro d' t2 hd hp
    rcases hh with (rfl | rfl) | ⟨rfl, d, t', rfl, h1⟩ | ⟨h1, _, p, d, t', hw, hpp, hdd, hd1, hd2⟩
    · exact absurd hp (by simp [spanN, show digitB 39 = false by decide +kernel])
    · exact absurd hp (by simp [spanN, show digitB 34 = false by decide +kernel])
    · exact absurd hp (by simp [spanN, show digitB 92 = false by decide +kernel])
    · have e2 : c :: (t ++ bh) = p ++ d :: (t' ++ bh) := by rw [← List.cons_append, hw]; simp
      rw [e2, span_head hpp hdd, List.drop_left] at hd
      cases hd
      exact ⟨hd1, hd2⟩
  · rw [List.take_left, List.drop_zero, hr]; rfl
theorem end_one {S : List UInt8} {a : Nat} {c : UInt8} (h : S.drop a = [c]) (hc : endsB c = false) : endN S a = a + 1 := by
  unfold endN
  rw [h]
  unfold endFrom
  rw [if_neg (by unfold stopB; rw [hc]; simp)]
  rfl
theorem toks_enc (s : List UInt8) (state : Int) {bh : List UInt8} (h : bh ∈ behL) : ∃ l, Toks (encL s state true ++ bh) 0 (⟨6, 0, (encL s state true).length, false⟩ :: l) := by
  have hT := tok_enc s state h
  generalize encL s state true = w at *
  have hd := drop_beh w bh
  have hlen : (w ++ bh).length = w.length + bh.length := List.length_append
  suffices hs : ∃ l, Toks (w ++ bh) w.length l by
    obtain ⟨l, hl⟩ := hs
    exact ⟨l, .more hT hl⟩
  generalize w ++ bh = S at *
  have hdone : ∀ m, S.length = m → Toks S m [] := by rintro m rfl; exact .done
  have h0 := hd 0
  have h1 := hd 1
  rw [Nat.add_zero] at h0
  clear hd hT
  unfold behL at h
  simp only [List.mem_cons, List.not_mem_nil, or_false] at h
  rcases h with rfl | rfl | rfl | rfl | rfl | rfl | rfl
  · exact ⟨[], hdone _ hlen⟩
  · refine ⟨_, .more (tok_blank h0 (m := 1) (by decide) (by omega)) (.more (tok_word h1 (by decide) (by decide) (by decide) (by decide +kernel) (fun d t q q2 => absurd q2 (by decide +kernel)) (m := w.length + 2) (end_one h1 (by decide +kernel)) (by omega) (by simp at hlen; omega) rfl) (hdone _ hlen))⟩
  · exact ⟨_, .more (tok_line h0) (hdone _ hlen)⟩
  · exact ⟨_, .more (tok_op h0 (by decide) (by decide) (by decide) rfl (by decide +kernel) (by decide +kernel) (by decide +kernel) (m := 1) (by decide +kernel) (by omega) (by simp)) (hdone _ hlen)⟩
  · refine ⟨_, .more (tok_op h0 (by decide) (by decide) (by decide) rfl (by decide +kernel) (by decide +kernel) (by decide +kernel) (m := 1) (by decide +kernel) (by omega) (by simp)) (.more (tok_word h1 (by decide) (by decide) (by decide) (by decide +kernel) (fun d t q q2 => absurd q2 (by decide +kernel)) (m := w.length + 2) (end_one h1 (by decide +kernel)) (by omega) (by simp at hlen; omega) rfl) (hdone _ hlen))⟩
  · exact ⟨_, .more (tok_op h0 (by decide) (by decide) (by decide) rfl (by decide +kernel) (by decide +kernel) (by decide +kernel) (m := 1) (by decide +kernel) (by omega) (by simp)) (hdone _ hlen)⟩
  · exact ⟨_, .more (tok_op h0 (by decide) (by decide) (by decide) rfl (by decide +kernel) (by decide +kernel) (by decide +kernel) (m := 1) (by decide +kernel) (by omega) (by simp)) (hdone _ hlen)⟩
end Go.Proofs.YtljinmfkogmmlaaDoor.Lx
