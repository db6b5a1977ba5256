/-
  The walks of the definition's layers 8 and 17: a text's bare text; whether it expands; what a text splits into. Conditions: texts of at most 30000 bytes.
-/
import Derived.Test.YtadaeecokkokjaaGreatRefPcs
set_option linter.unusedSimpArgs false
set_option linter.unusedVariables false
namespace Go.Proofs.YtadaeecokkokjaaGreat.Li
open Go.ChangeShapes Go.WideShapes Go.Deep Go.RowKit Cls Md Mc Pa Pat Quo
set_option maxRecDepth 100000
theorem txL_take {P : List Pc} {k : Nat} {p : Pc} (h : P[k]? = some p) : txL (P.take (k + 1)) = txL (P.take k) ++ p.tx := by
  rw [List.take_add_one, h, txL_app]
  simp [txL]
set_option maxHeartbeats 2000000 in
theorem refBare_any (s : List UInt8) (w : World) (hs : s.length ≤ 30000) : Calls Tryz.prog 30 #[.string (B s)] w fun e w' => e = .returned (.string (B (txL (piecesL s)))) ∧ Below w.heap.size w w' := by
  have HP := Lib.hid (refPieces_any s w hs)
  have HTX := Lib.hid fun (k : Nat) => pieces_tx s hs (List.take_prefix k (piecesL s))
  have hpc := pieces_cnt hs
  generalize piecesL s = P at *
  go_enter Tryz.func30, Tryz.ntmps30
  go_wp2_with (go_at_call 51; refine HP.out.mono ?_; rintro e w1 ⟨v, rfl, ho, hb⟩; have HB := Lib.hid hb; obtain ⟨A, c, rfl, -, -, -, hA⟩ := ho.sl pcC_len rfl; have HA := Lib.hid hA; clear ho hb hA)
  go_loopw [4, 5] (fun t i wr => ∃ k : Nat, k ≤ P.length ∧ t = .string (B (txL (P.take k))) ∧ i = .int .i64 k ∧ Hid (w1 = wr)) (fun _ i _ => P.length - (intOf i).toNat)
  case atStart => exact ⟨0, by omega, rfl, rfl, Lib.hid rfl⟩
  case round =>
    obtain ⟨k, hk, rfl, rfl, HW⟩ := hrel
    obtain rfl := HW.out
    clear HW
    by_cases hlt : k < P.length
    · obtain ⟨b, off, rfl, hb, hcl⟩ := HA.out (by omega)
      obtain ⟨p, hp⟩ := get_some hlt
      have e0 := hcl k p hp 2 _ rfl
      haveI : Old w1 b := ⟨hb⟩
      have HT := Lib.hid (txL_take hp)
      have h1 := HTX.out (k + 1)
      rw [HT.out, List.length_append] at h1
      have k0 : (0 : Int) ≤ (k : Int) := by omega
      have k1 : (k : Int) < (P.length : Int) := by omega
      clear hcl hp
      generalize txL (P.take k) = t0 at *
      have s1 : ¬ 9223372036854775807 < t0.length + p.tx.length := by omega
      go_wp2
      go_roundw
      case rel => exact ⟨k + 1, by omega, by rw [HT.out], by go_num, by first | exact Lib.hid rfl | exact Lib.hid trivial⟩
      case measure => simp [intOf]; omega
    · have hk' : k = P.length := by omega
      subst hk'
      rw [List.take_length]
      go_wp2
      go_ret
      exact ⟨rfl, HB.out⟩
set_option maxHeartbeats 2000000 in
theorem refExp_any (s : List UInt8) (w : World) (hs : s.length ≤ 30000) : Calls Tryz.prog 29 #[.string (B s)] w fun e w' => e = .returned (.bool ((piecesL s).any Pc.ex)) ∧ Below w.heap.size w w' := by
  have HP := Lib.hid (refPieces_any s w hs)
  have hpc := pieces_cnt hs
  generalize piecesL s = P at *
  go_enter Tryz.func29, Tryz.ntmps29
  go_wp2_with (go_at_call 51; refine HP.out.mono ?_; rintro e w1 ⟨v, rfl, ho, hb⟩; have HB := Lib.hid hb; obtain ⟨A, c, rfl, -, -, -, hA⟩ := ho.sl pcC_len rfl; have HA := Lib.hid hA; clear ho hb hA)
  go_loopw [4] (fun i wr => ∃ k : Nat, k ≤ P.length ∧ i = .int .i64 k ∧ Hid ((P.take k).any Pc.ex = false) ∧ Hid (w1 = wr)) (fun i _ => P.length - (intOf i).toNat)
  case atStart => exact ⟨0, by omega, rfl, Lib.hid rfl, Lib.hid rfl⟩
  case round =>
    obtain ⟨k, hk, rfl, HN, HW⟩ := hrel
    obtain rfl := HW.out
    clear HW
    by_cases hlt : k < P.length
    · obtain ⟨b, off, rfl, hb, hcl⟩ := HA.out (by omega)
      obtain ⟨p, hp⟩ := get_some hlt
      have e0 := hcl k p hp 0 _ rfl
      rw [Nat.add_zero] at e0
      haveI : Old w1 b := ⟨hb⟩
      have k0 : (0 : Int) ≤ (k : Int) := by omega
      have k1 : (k : Int) < (P.length : Int) := by omega
      have HPM := Lib.hid (List.mem_of_getElem? hp)
      have HT := Lib.hid (show (P.take (k + 1)).any Pc.ex = p.ex by rw [List.take_add_one, hp, List.any_append, HN.out]; simp)
      clear hcl hp
      cases hx : p.ex with
      | true =>
        have HX := Lib.hid hx
        rw [hx] at e0
        clear hx
        go_wp2
        go_ret
        exact ⟨by rw [show P.any Pc.ex = true from List.any_eq_true.2 ⟨p, HPM.out, HX.out⟩]; rfl, HB.out⟩
      | false =>
        rw [hx] at e0 HT
        clear hx
        go_wp2
        go_roundw
        case rel => exact ⟨k + 1, by omega, by go_num, HT, by first | exact Lib.hid rfl | exact Lib.hid trivial⟩
        case measure => simp [intOf]; omega
    · have hk' : k = P.length := by omega
      subst hk'
      have hn := HN.out
      rw [List.take_length] at hn
      have HN := Lib.hid hn
      clear hn
      go_wp2
      go_ret
      exact ⟨by rw [HN.out]; rfl, HB.out⟩
/-- Stacks with the same letters. -/
def SameS (x y : St) : Prop := x.l.map (·.1) = y.l.map (·.1) ∧ x.f = y.f
theorem ss_top {x y : St} (h : SameS x y) : x.top = y.top := by
  obtain ⟨l, f⟩ := x
  obtain ⟨m, g⟩ := y
  have h1 := h.1
  cases l <;> cases m <;> simp at h1
  · rfl
  · exact h1.1
theorem ss_pop {x y : St} (h : SameS x y) : SameS x.pop y.pop := by
  refine ⟨?_, h.2⟩
  show x.l.tail.map _ = y.l.tail.map _
  rw [List.map_tail, List.map_tail, h.1]
theorem ss_under {x y : St} (h : SameS x y) : x.under = y.under := ss_top (ss_pop h)
theorem ss_push {x y : St} (h : SameS x y) (c : UInt8) (p q : Nat) : SameS (x.push c p) (y.push c q) := ⟨by show c :: x.l.map _ = c :: y.l.map _; rw [h.1], h.2⟩
theorem ss_mark {x y : St} (h : SameS x y) (f : Bool) : SameS (x.mark f) (y.mark f) := ⟨h.1, rfl⟩
theorem ss_turn {x y : St} (h : SameS x y) (c : UInt8) : SameS (x.turn c) (y.turn c) := by
  obtain ⟨l, f⟩ := x
  obtain ⟨m, g⟩ := y
  have h1 := h.1
  have h2 := h.2
  cases l with
  | nil =>
    cases m with
    | nil => exact ⟨rfl, h2⟩
    | cons b r => simp at h1
  | cons a r =>
    cases m with
    | nil => simp at h1
    | cons b t =>
      simp at h1
      exact ⟨by show c :: r.map _ = c :: t.map _; rw [h1.2], h2⟩
theorem ss_ite {c : Prop} [Decidable c] {a b a' b' : St} (h1 : SameS a a') (h2 : SameS b b') : SameS (if c then a else b) (if c then a' else b') := by
  split
  · exact h1
  · exact h2
theorem ss_program {x y : St} (h : SameS x y) (c b : Int) (p q : Nat) : SameS (Md.program x c b p) (Md.program y c b q) := by
  unfold Md.program
  rw [h.2]
  repeat' (with_reducible refine ss_ite ?_ ?_)
  all_goals first | exact ss_push h _ _ _ | exact ss_mark (ss_push h _ _ _) _ | exact ss_mark h _ | exact ss_mark (ss_pop h) _
theorem ss_plain {x y : St} (h : SameS x y) (c b : Int) (p q : Nat) : SameS (Md.plain x c b p) (Md.plain y c b q) := by
  unfold Md.plain
  repeat' (with_reducible refine ss_ite ?_ ?_)
  all_goals first | exact ss_program h _ _ _ _ | exact ss_push h _ _ _ | exact ss_mark (ss_pop h) _ | exact ss_pop h | exact ss_turn h _ | exact h
theorem ss_step {x y : St} (h : SameS x y) (b : Int) (p q : Nat) : SameS (Md.step x b p) (Md.step y b q) := by
  unfold Md.step
  rw [ss_top h, ss_under h]
  repeat' (with_reducible refine ss_ite ?_ ?_)
  all_goals first | exact ss_mark (ss_turn h _) _ | exact ss_turn h _ | exact ss_pop h | exact ss_plain (ss_pop h) _ _ _ _ | exact ss_plain (ss_turn h _) _ _ _ _ | exact ss_plain h _ _ _ _
theorem ss_stop {x y : St} (h : SameS x y) (b : UInt8) : stopB x b = stopB y b := by
  unfold stopB
  rw [show lets x.l = lets y.l by unfold lets; rw [h.1]]
theorem ss_end : ∀ (l : List UInt8) {x y : St} (h : SameS x y) (a i : Nat), endFrom x (a + i) l = a + endFrom y i l
  | [], x, y, h, a, i => rfl
  | b :: l, x, y, h, a, i => by
    unfold endFrom
    rw [ss_stop h]
    split
    · rfl
    · have := ss_end l (ss_step h b.toNat (a + i) i) a (i + 1)
      exact this
theorem endN_wend (s : List UInt8) (a : Nat) : endN s a = wendN s a := by
  unfold endN wendN
  exact ss_end (s.drop a) ⟨rfl, rfl⟩ a 0
theorem byte_all2 {P : UInt8 → Bool} (h : ∀ n : _root_.Fin 256, P (UInt8.ofNat n.val) = true) (b : UInt8) : P b = true := by
  have := h ⟨b.toNat, b.toNat_lt⟩
  simpa using this
/-- No letters are to be shut just where Top stands alone, or with a dollar. -/
theorem close_no {c : UInt8} (h : c ∈ modeL) : closeB c = [] ↔ c = 84 ∨ c = 76 := by
  have h0 := byte_all2 (P := fun b => !(modeL.contains b) || ((closeB b == []) == (b == 84 || b == 76))) (by decide +kernel) c
  have h1 : modeL.contains c = true := by simpa using h
  rw [h1] at h0
  simp only [Bool.not_true, Bool.false_or] at h0
  have h2 : (closeB c == []) = (c == 84 || c == 76) := by simpa using h0
  constructor
  · intro e
    rw [e] at h2
    have : (c == 84 || c == 76) = true := h2.symm
    simpa using this
  · intro e
    have : (c == 84 || c == 76) = true := by simpa using e
    rw [this] at h2
    simpa using h2
theorem wf_mode : ∀ {l : List (UInt8 × Nat)}, WFl l → ∀ e ∈ l, e.1 ∈ modeL
  | [(c, p)], h, e, he => by
    rw [List.mem_singleton] at he
    subst he
    have : c = 84 := h
    show c ∈ modeL
    rw [this]; decide
  | (c, p) :: (d, q) :: r, h, e, he => by
    rcases List.mem_cons.1 he with rfl | he
    · show c ∈ modeL
      have h1 := h.1
      revert h1
      unfold lettersL modeL
      simp only [List.mem_cons]
      intro h1
      exact .inr h1
    · exact wf_mode h.2.2 e he
theorem inner_dollar {c : UInt8} (h : c ∈ innerL) (h2 : c = 84 ∨ c = 76) : c = 84 := by
  rcases h2 with rfl | rfl
  · rfl
  · revert h; decide
theorem close_wf : ∀ {l : List (UInt8 × Nat)}, WFl l → (closL l = [] ↔ (lets l = [84] ∨ lets l = [84, 76]))
  | [(c, p)], h => by
    have : c = 84 := h
    subst this
    exact ⟨fun _ => .inl rfl, fun _ => rfl⟩
  | (c, p) :: (d, q) :: r, h => by
    have hm := wf_mode h
    have hc : closL ((c, p) :: (d, q) :: r) = closeB c ++ (closeB d ++ closL r) := rfl
    constructor
    · intro e
      rw [hc, List.append_eq_nil_iff, List.append_eq_nil_iff] at e
      obtain ⟨e1, e2, e3⟩ := e
      have c1 := (close_no (hm (c, p) (by simp))).1 e1
      have d1 := inner_dollar h.2.1 ((close_no (hm (d, q) (by simp))).1 e2)
      have c2 : c = 76 := by
        rcases c1 with rfl | rfl
        · exfalso; have := h.1; revert this; decide
        · rfl
      subst c2 d1
      cases r with
      | nil => exact .inr rfl
      | cons a r =>
        exfalso
        have := h.2.2.1
        revert this; decide
    · intro e
      have hl : (lets ((c, p) :: (d, q) :: r)).length = r.length + 2 := by unfold lets; simp
      rcases e with e | e
      · rw [e] at hl; simp at hl
      · rw [e] at hl
        have : r = [] := List.eq_nil_of_length_eq_zero (by have h2 : ([84, 76] : List UInt8).length = 2 := rfl; omega)
        subst this
        have e2 : [d, c] = [84, 76] := e
        simp at e2
        obtain ⟨rfl, rfl⟩ := e2
        rfl
namespace Li2
theorem blank_head0 {c : UInt8} {t : List UInt8} (h : blankB c = false) : spanN blankB (c :: t) = 0 := by
  unfold spanN
  simp [List.takeWhile_cons, h]
theorem blank_cons {c : UInt8} {t : List UInt8} (h : blankB c = true) : spanN blankB (c :: t) = spanN blankB t + 1 := by
  unfold spanN
  simp [List.takeWhile_cons, h]
end Li2
/-- What the definition's Split and the program's have in common, at a place. -/
structure RsI (s : List UInt8) (w : World) (at_ f : Nat) (out : List (List UInt8)) (o : Value) (W : World) : Prop where
  eq : splitL s = splitW s (wordsF s (f + 1) (at_ + spanN blankB (s.drop at_))) out
  ft : s.length ≤ at_ + f
  own : Own W w.heap.size 1 o out.length (out.flatMap strC)
  nil : out = [] → o = .slice none 0 0
  be : Below w.heap.size w W
  al : at_ ≤ s.length
  ol : out.length ≤ at_
theorem RsI.start (s : List UInt8) (w : World) : RsI s w 0 s.length [] (.slice none 0 0) w :=
  ⟨by rw [Nat.zero_add]; rfl, by omega, Own.nil _ _ _, fun _ => rfl, Below.refl _ _, Nat.zero_le _, Nat.le_refl _⟩
section
variable {s : List UInt8} {w W W' : World} {at_ f : Nat} {out : List (List UInt8)} {o o' : Value}
theorem RsI.below (h : RsI s w at_ f out o W) (hb : Below W.heap.size W W') : RsI s w at_ f out o W' := ⟨h.eq, h.ft, h.own.below hb, h.nil, below_then h.be hb, h.al, h.ol⟩
theorem RsI.blank (h : RsI s w at_ f out o W) (h1 : at_ < s.length) (hc : clsB s[at_] = 1) : RsI s w (at_ + 1) f out o W := by
  refine ⟨?_, by have := h.ft; omega, h.own, h.nil, h.be, h1, by have := h.ol; omega⟩
  rw [h.eq, List.drop_eq_getElem_cons h1, Li2.blank_cons (show blankB s[at_] = true by unfold blankB; rw [hc]; rfl)]
  congr 2
  omega
theorem RsI.word (h : RsI s w at_ f out o W) (h1 : at_ < s.length) (hc : ¬ clsB s[at_] = 1) : splitL s = if chkN s at_ (wendN s at_) ≠ 0 then ([], at_, chkN s at_ (wendN s at_)) else splitW s (if wendN s at_ = at_ then [] else wordsF s f (wendN s at_ + spanN blankB (s.drop (wendN s at_)))) (out ++ [valT s (at_, wendN s at_)]) := by
  have hb : blankB s[at_] = false := by
    unfold blankB
    simpa using hc
  have h0 : spanN blankB (s.drop at_) = 0 := by rw [List.drop_eq_getElem_cons h1]; exact Li2.blank_head0 hb
  rw [h.eq, h0, Nat.add_zero]
  show splitW s (if at_ < s.length then (at_, wendN s at_) :: (if wendN s at_ = at_ then [] else wordsF s f (wendN s at_ + spanN blankB (s.drop (wendN s at_)))) else []) out = _
  rw [if_pos h1]
  rfl
end
theorem chk_is {s : List UInt8} {a e : Nat} (h1 : a < s.length) (h2 : a < e) (h3 : e ≤ s.length) : chkN s a e = if s[a] = 35 then 4 else if e < s.length ∧ clsB (s.getD e 0) ≠ 1 then 4 else if closL (run (subT s a e)).l ≠ [] then 9 else if (valueL (subT s a e)).2 = false then 8 else 0 := by
  have hl : (subT s a e).length = e - a := subT_len s a e h3
  have hne : ¬ subT s a e = [] := fun h => by rw [h] at hl; simp at hl; omega
  have hg : (subT s a e).getD 0 0 = s[a] := by
    unfold subT
    rw [List.getD_eq_getElem?_getD, List.getElem?_drop, List.getElem?_take, if_pos (by omega), Nat.add_zero, List.getElem?_eq_getElem h1]
    rfl
  unfold chkN
  rw [if_neg hne, hg]
theorem chk_same {s : List UInt8} {a : Nat} : chkN s a a = 4 := by
  unfold chkN
  rw [if_pos]
  unfold subT
  rw [List.drop_eq_nil_iff, List.length_take]
  omega
theorem value_ex (t : List UInt8) : (valueL t).2 = !(piecesL t).any Pc.ex ∧ ((piecesL t).any Pc.ex = false → (valueL t).1 = txL (piecesL t)) := by
  have h : (piecesL t).all (fun p => !p.ex) = !(piecesL t).any Pc.ex := by
    rw [List.all_eq_not_any_not]
    simp
  unfold valueL
  rw [valP_eq, h]
  cases (piecesL t).any Pc.ex <;> simp
set_option maxHeartbeats 8000000 in
theorem refSplit_any (s : List UInt8) (w : World) (hs : s.length ≤ 30000) : Calls Tryz.prog 13 #[.string (B s)] w (SplitP s w) := by
  obtain ⟨i0, hi0, hz00, hz01, hz02⟩ := info_parts info_str
  have HI := Lib.hid (RsI.start s w)
  go_enter Tryz.func13, Tryz.ntmps13
  go_wp2
  go_loopw [5, 6] (fun o1 i wr => ∃ (at_ f : Nat) (out : List (List UInt8)) (o : Value) (W1 : World), o = o1 ∧ W1 = wr ∧ i = .int .i64 at_ ∧ Hid (RsI s w at_ f out o W1)) (fun _ i _ => s.length - (intOf i).toNat)
  case atStart => exact ⟨0, _, [], _, _, rfl, rfl, rfl, HI⟩
  case round =>
    clear HI
    obtain ⟨at_, f, out, o, W, rfl, rfl, rfl, HI⟩ := hrel
    have hal := HI.out.al
    have hol := HI.out.ol
    have hwz := HI.out.be.size
    have k0 : (0 : Int) ≤ (at_ : Int) := by omega
    by_cases h1 : at_ < s.length
    · have k1 : (at_ : Int) < (s.length : Int) := by omega
      have HCL := Lib.hid fun W => refClass_any s[at_] W
      by_cases hbk : clsB s[at_] = 1
      · have HN := Lib.hid (HI.out.blank h1 hbk)
        have e1 : (clsB s[at_] == 1) = true := by simpa using hbk
        clear hbk
        generalize clsB s[at_] = cc at *
        go_wp2_with (go_at_call 26; refine (HCL.out _).mono ?_; rintro e w' ⟨rfl, rfl⟩)
        go_roundw
        case rel => exact ⟨at_ + 1, f, out, o, _, rfl, rfl, by go_num, HN⟩
        case measure => simp [intOf]; omega
      · have hwd := HI.out.word h1 hbk
        have e1 : (clsB s[at_] == 1) = false := by simpa using hbk
        have HEN := Lib.hid (refEnd_any s at_ W (by omega) hal)
        rw [endN_wend] at HEN
        have hwl := wendN_le (s := s) hal
        clear hbk
        generalize wendN s at_ = e at *
        generalize hcc : clsB s[at_] = cc at *
        clear hcc
        by_cases he : e = at_
        · subst he
          rw [chk_same, if_pos (by decide)] at hwd
          have HWD := Lib.hid hwd
          clear hwd
          go_wp2_with (first
            | (go_at_call 26; refine (HCL.out _).mono ?_; rintro e w' ⟨rfl, rfl⟩)
            | (go_at_call 27; refine HEN.out.mono ?_; rintro e' w2 ⟨rfl, hb2⟩; have HB2 := Lib.hid (below_then HI.out.be hb2); clear hb2))
          refine bodyPost_ret (v := .tuple #[.slice none 0 0, .int .i64 e, .int .i64 4]) (by simp [results, Tryz.results13, go_sem]) rfl ?_
          exact ⟨_, by rw [HWD.out], by rw [HWD.out]; exact Own.nil _ _ _, fun _ => rfl, HB2.out⟩
        have he2 : ((e : Int) == (at_ : Int)) = false := by rw [beq_eq_false_iff_ne]; omega
        have hlt : at_ < e := by omega
        have hck := chk_is h1 hlt hwl.2
        by_cases h35 : s[at_] = 35
        · rw [if_pos h35] at hck
          rw [hck, if_pos (by decide)] at hwd
          have HWD := Lib.hid hwd
          have e35 := is_b (n := 35) (k := 35) rfl h35
          clear hwd hck h35 he
          go_wp2_with (first
            | (go_at_call 26; refine (HCL.out _).mono ?_; rintro e w' ⟨rfl, rfl⟩)
            | (go_at_call 27; refine HEN.out.mono ?_; rintro e' w2 ⟨rfl, hb2⟩; have HB2 := Lib.hid (below_then HI.out.be hb2); clear hb2))
          refine bodyPost_ret (v := .tuple #[.slice none 0 0, .int .i64 at_, .int .i64 4]) (by simp [results, Tryz.results13, go_sem]) rfl ?_
          exact ⟨_, by rw [HWD.out], by rw [HWD.out]; exact Own.nil _ _ _, fun _ => rfl, HB2.out⟩
        rw [if_neg h35] at hck
        have e35 := not_b (n := 35) (k := 35) rfl h35
        by_cases hnx : e < s.length ∧ clsB (s.getD e 0) ≠ 1
        · rw [if_pos hnx] at hck
          rw [hck, if_pos (by decide)] at hwd
          have HWD := Lib.hid hwd
          obtain ⟨hlt2, hnc⟩ := hnx
          have hg : s.getD e 0 = s[e] := by rw [List.getD_eq_getElem?_getD, List.getElem?_eq_getElem hlt2]; rfl
          have HC2 := Lib.hid fun W => refClass_any s[e] W
          have k2 : (e : Int) < (s.length : Int) := by omega
          have k3 : (0 : Int) ≤ (e : Int) := by omega
          have e2 : (clsB s[e] != 1) = true := by rw [← hg]; simpa using hnc
          clear hwd hck h35 he hnc hg
          generalize hc2 : clsB s[e] = c2 at *
          clear hc2
          go_wp2_with (first
            | (with_reducible (go_at_call 26; refine (HCL.out _).mono ?_; rintro e w' ⟨rfl, rfl⟩))
            | (with_reducible (go_at_call 26; refine (HC2.out _).mono ?_; rintro e w' ⟨rfl, rfl⟩))
            | (go_at_call 27; refine HEN.out.mono ?_; rintro e' w2 ⟨rfl, hb2⟩; have HB2 := Lib.hid (below_then HI.out.be hb2); clear hb2))
          refine bodyPost_ret (v := .tuple #[.slice none 0 0, .int .i64 at_, .int .i64 4]) (by simp [results, Tryz.results13, go_sem]) rfl ?_
          exact ⟨_, by rw [HWD.out], by rw [HWD.out]; exact Own.nil _ _ _, fun _ => rfl, HB2.out⟩
        rw [if_neg hnx] at hck
        rw [show subT s at_ e = ((s.take e).drop at_) from rfl] at hck
        have htl : (((s.take e).drop at_)).length ≤ 30000 := by have := subT_len s at_ e hwl.2; unfold subT at this; omega
        have hvt : valT s (at_, e) = (valueL ((s.take e).drop at_)).1 := rfl
        have HRU := Lib.hid fun W => refRun_any ((s.take e).drop at_) W (by omega)
        have HEX := Lib.hid fun W => refExp_any ((s.take e).drop at_) W htl
        have HBA := Lib.hid fun W => refBare_any ((s.take e).drop at_) W htl
        have hcw := close_wf (wf_run ((s.take e).drop at_))
        obtain ⟨v1, v2⟩ := value_ex ((s.take e).drop at_)
        have k2 : (at_ : Int) ≤ (e : Int) := by omega
        have k3 : (e : Int) ≤ (s.length : Int) := by omega
        have he0 : ¬ e = at_ := he
        rw [if_neg he0] at hwd
        clear he htl
        have hlast : lets (run ((s.take e).drop at_)).l = [84] ∨ lets (run ((s.take e).drop at_)).l = [84, 76] ∨ (¬ lets (run ((s.take e).drop at_)).l = [84] ∧ ¬ lets (run ((s.take e).drop at_)).l = [84, 76]) := by
          by_cases g1 : lets (run ((s.take e).drop at_)).l = [84]
          · exact .inl g1
          by_cases g2 : lets (run ((s.take e).drop at_)).l = [84, 76]
          · exact .inr (.inl g2)
          exact .inr (.inr ⟨g1, g2⟩)
        have hkk : (e = s.length ∧ ¬ (e : Int) < (s.length : Int)) ∨ (e < s.length ∧ (e : Int) < (s.length : Int)) := by omega
        rcases hkk with ⟨hel, kk⟩ | ⟨hel, kk⟩
        · skip
          clear hnx hel
          rcases hlast with hL | hL | ⟨n1, n2⟩
          · have HLT := Lib.hid hL
            rw [if_neg (fun h => h (hcw.2 (by rw [hL]; simp)))] at hck
            clear hL hcw
            cases hx : (piecesL ((s.take e).drop at_)).any Pc.ex with
            | true =>
              have v3 : (valueL ((s.take e).drop at_)).2 = false := by rw [v1, hx]; rfl
              rw [hx] at HEX
              rw [if_pos v3] at hck
              rw [hck, if_pos (by decide)] at hwd
              have HWD := Lib.hid hwd
              clear hx hwd hck v1 v2 v3 hvt h35 he0
              go_wp2_with (first
                | (go_at_call 26; refine (HCL.out _).mono ?_; rintro e w' ⟨rfl, rfl⟩)
                | (go_at_call 27; refine HEN.out.mono ?_; rintro e' w2 ⟨rfl, hb2⟩; have HI2 := Lib.hid (HI.out.below hb2); clear hb2)
                | (go_at_call 28; refine (HRU.out _).mono ?_; rintro e' w3 ⟨v, rfl, hsr, hb3⟩; obtain ⟨A, cp, rfl, -⟩ := hsr.form; rw [HLT.out]; have HI3 := Lib.hid ((HI2.out.below hb3).below (below_alloc (Below.refl _ _) (.cells #[.string (B [84]), .slice A (run ((s.take e).drop at_)).l.length cp, .bool (run ((s.take e).drop at_)).f] 63))); clear hb3)
                | (go_at_call 29; refine (HEX.out _).mono ?_; rintro e' w4 ⟨rfl, hb4⟩; have HI4 := Lib.hid (HI3.out.below hb4); have hwz4 := HI4.out.be.size; clear hb4))
              refine bodyPost_ret (v := .tuple #[.slice none 0 0, .int .i64 at_, .int .i64 8]) (by simp [results, Tryz.results13, go_sem]) rfl ?_
              exact ⟨_, by rw [HWD.out], by rw [HWD.out]; exact Own.nil _ _ _, fun _ => rfl, HI4.out.be⟩
            | false =>
              have v3 : (valueL ((s.take e).drop at_)).2 = true := by rw [v1, hx]; rfl
              rw [hx] at HEX
              rw [if_neg (by rw [v3]; simp)] at hck
              rw [hck, if_neg (by simp), hvt, v2 hx] at hwd
              obtain ⟨q, hq⟩ : ∃ q, txL (piecesL ((s.take e).drop at_)) = q := ⟨_, rfl⟩
              rw [hq] at hwd HBA
              obtain ⟨g, hg⟩ : ∃ g, f = g + 1 := ⟨f - 1, by have := HI.out.ft; omega⟩
              have hft := HI.out.ft
              subst hg
              have HWD := Lib.hid hwd
              clear hx hwd hck v1 v2 v3 hvt h35 he0 hq
              go_wp2_with (first
                | (go_at_call 26; refine (HCL.out _).mono ?_; rintro e w' ⟨rfl, rfl⟩)
                | (go_at_call 27; refine HEN.out.mono ?_; rintro e' w2 ⟨rfl, hb2⟩; have HI2 := Lib.hid (HI.out.below hb2); clear hb2)
                | (go_at_call 28; refine (HRU.out _).mono ?_; rintro e' w3 ⟨v, rfl, hsr, hb3⟩; obtain ⟨A, cp, rfl, -⟩ := hsr.form; rw [HLT.out]; have HI3 := Lib.hid ((HI2.out.below hb3).below (below_alloc (Below.refl _ _) (.cells #[.string (B [84]), .slice A (run ((s.take e).drop at_)).l.length cp, .bool (run ((s.take e).drop at_)).f] 63))); clear hb3)
                | (go_at_call 29; refine (HEX.out _).mono ?_; rintro e' w4 ⟨rfl, hb4⟩; have HI4 := Lib.hid (HI3.out.below hb4); have hwz4 := HI4.out.be.size; clear hb4)
                | (go_at_call 30; refine (HBA.out _).mono ?_; rintro e' w5 ⟨rfl, hb5⟩; have HI5 := Lib.hid (HI4.out.below hb5); have hwz5 := HI5.out.be.size; clear hb5)
                | ((at_builtin; refine wpList_append_src _ rfl (.tmp 66) (.tmp 72) _ rfl w.heap.size 9 i0 _ 1 16 Tryz.underlying24 hi0 hz00 hz01 hz02 rfl (by decide) _ out.length (out.flatMap strC) rfl (HI5.out.own.below (below_alloc (Below.refl _ _) _)) _ 1 [.string (B q)] rfl rfl (Src.one _ _ _ _) (by simp [Value.oneCell']) (by unfold maxLen; omega) (by omega) (by first | (simp; done) | omega | (simp; omega)) ?_; intro v6 w6 hown6 hg6 hat6 hty6; have HTY6 := Lib.hid hty6; clear hty6); have HO6 := Lib.hid hown6; have HB6 := Lib.hid (below_keeps (below_alloc HI5.out.be _) hg6 (fun k q => q.2)); clear hown6 hg6 hat6))
              go_roundw
              case rel => exact ⟨e, g, out ++ [q], _, _, rfl, rfl, rfl, Lib.hid ⟨HWD.out, by omega, by rw [List.length_append, List.flatMap_append]; exact HO6.out, fun h => by simp at h, HB6.out, hwl.2, by rw [List.length_append]; simp; omega⟩⟩
              case measure => simp [intOf]; omega
          · have HLT := Lib.hid hL
            rw [if_neg (fun h => h (hcw.2 (by rw [hL]; simp)))] at hck
            clear hL hcw
            cases hx : (piecesL ((s.take e).drop at_)).any Pc.ex with
            | true =>
              have v3 : (valueL ((s.take e).drop at_)).2 = false := by rw [v1, hx]; rfl
              rw [hx] at HEX
              rw [if_pos v3] at hck
              rw [hck, if_pos (by decide)] at hwd
              have HWD := Lib.hid hwd
              clear hx hwd hck v1 v2 v3 hvt h35 he0
              go_wp2_with (first
                | (go_at_call 26; refine (HCL.out _).mono ?_; rintro e w' ⟨rfl, rfl⟩)
                | (go_at_call 27; refine HEN.out.mono ?_; rintro e' w2 ⟨rfl, hb2⟩; have HI2 := Lib.hid (HI.out.below hb2); clear hb2)
                | (go_at_call 28; refine (HRU.out _).mono ?_; rintro e' w3 ⟨v, rfl, hsr, hb3⟩; obtain ⟨A, cp, rfl, -⟩ := hsr.form; rw [HLT.out]; have HI3 := Lib.hid ((HI2.out.below hb3).below (below_alloc (Below.refl _ _) (.cells #[.string (B [84, 76]), .slice A (run ((s.take e).drop at_)).l.length cp, .bool (run ((s.take e).drop at_)).f] 63))); clear hb3)
                | (go_at_call 29; refine (HEX.out _).mono ?_; rintro e' w4 ⟨rfl, hb4⟩; have HI4 := Lib.hid (HI3.out.below hb4); have hwz4 := HI4.out.be.size; clear hb4))
              refine bodyPost_ret (v := .tuple #[.slice none 0 0, .int .i64 at_, .int .i64 8]) (by simp [results, Tryz.results13, go_sem]) rfl ?_
              exact ⟨_, by rw [HWD.out], by rw [HWD.out]; exact Own.nil _ _ _, fun _ => rfl, HI4.out.be⟩
            | false =>
              have v3 : (valueL ((s.take e).drop at_)).2 = true := by rw [v1, hx]; rfl
              rw [hx] at HEX
              rw [if_neg (by rw [v3]; simp)] at hck
              rw [hck, if_neg (by simp), hvt, v2 hx] at hwd
              obtain ⟨q, hq⟩ : ∃ q, txL (piecesL ((s.take e).drop at_)) = q := ⟨_, rfl⟩
              rw [hq] at hwd HBA
              obtain ⟨g, hg⟩ : ∃ g, f = g + 1 := ⟨f - 1, by have := HI.out.ft; omega⟩
              have hft := HI.out.ft
              subst hg
              have HWD := Lib.hid hwd
              clear hx hwd hck v1 v2 v3 hvt h35 he0 hq
              go_wp2_with (first
                | (go_at_call 26; refine (HCL.out _).mono ?_; rintro e w' ⟨rfl, rfl⟩)
                | (go_at_call 27; refine HEN.out.mono ?_; rintro e' w2 ⟨rfl, hb2⟩; have HI2 := Lib.hid (HI.out.below hb2); clear hb2)
                | (go_at_call 28; refine (HRU.out _).mono ?_; rintro e' w3 ⟨v, rfl, hsr, hb3⟩; obtain ⟨A, cp, rfl, -⟩ := hsr.form; rw [HLT.out]; have HI3 := Lib.hid ((HI2.out.below hb3).below (below_alloc (Below.refl _ _) (.cells #[.string (B [84, 76]), .slice A (run ((s.take e).drop at_)).l.length cp, .bool (run ((s.take e).drop at_)).f] 63))); clear hb3)
                | (go_at_call 29; refine (HEX.out _).mono ?_; rintro e' w4 ⟨rfl, hb4⟩; have HI4 := Lib.hid (HI3.out.below hb4); have hwz4 := HI4.out.be.size; clear hb4)
                | (go_at_call 30; refine (HBA.out _).mono ?_; rintro e' w5 ⟨rfl, hb5⟩; have HI5 := Lib.hid (HI4.out.below hb5); have hwz5 := HI5.out.be.size; clear hb5)
                | ((at_builtin; refine wpList_append_src _ rfl (.tmp 66) (.tmp 72) _ rfl w.heap.size 9 i0 _ 1 16 Tryz.underlying24 hi0 hz00 hz01 hz02 rfl (by decide) _ out.length (out.flatMap strC) rfl (HI5.out.own.below (below_alloc (Below.refl _ _) _)) _ 1 [.string (B q)] rfl rfl (Src.one _ _ _ _) (by simp [Value.oneCell']) (by unfold maxLen; omega) (by omega) (by first | (simp; done) | omega | (simp; omega)) ?_; intro v6 w6 hown6 hg6 hat6 hty6; have HTY6 := Lib.hid hty6; clear hty6); have HO6 := Lib.hid hown6; have HB6 := Lib.hid (below_keeps (below_alloc HI5.out.be _) hg6 (fun k q => q.2)); clear hown6 hg6 hat6))
              go_roundw
              case rel => exact ⟨e, g, out ++ [q], _, _, rfl, rfl, rfl, Lib.hid ⟨HWD.out, by omega, by rw [List.length_append, List.flatMap_append]; exact HO6.out, fun h => by simp at h, HB6.out, hwl.2, by rw [List.length_append]; simp; omega⟩⟩
              case measure => simp [intOf]; omega
          · rw [if_pos (fun h => (hcw.1 h).elim n1 n2)] at hck
            rw [hck, if_pos (by decide)] at hwd
            have HWD := Lib.hid hwd
            obtain ⟨L, hL⟩ : ∃ L, lets (run ((s.take e).drop at_)).l = L := ⟨_, rfl⟩
            rw [hL] at n1 n2
            have HLT := Lib.hid hL
            have n3 : (L == [84]) = false := by simpa using n1
            have n4 : (L == [84, 76]) = false := by simpa using n2
            clear hL hcw hwd hck v1 v2 hvt h35 he0
            go_wp2_with (first
              | (go_at_call 26; refine (HCL.out _).mono ?_; rintro e w' ⟨rfl, rfl⟩)
              | (go_at_call 27; refine HEN.out.mono ?_; rintro e' w2 ⟨rfl, hb2⟩; have HI2 := Lib.hid (HI.out.below hb2); clear hb2)
              | (go_at_call 28; refine (HRU.out _).mono ?_; rintro e' w3 ⟨v, rfl, hsr, hb3⟩; obtain ⟨A, cp, rfl, -⟩ := hsr.form; rw [HLT.out]; have HI3 := Lib.hid ((HI2.out.below hb3).below (below_alloc (Below.refl _ _) (.cells #[.string (B L), .slice A (run ((s.take e).drop at_)).l.length cp, .bool (run ((s.take e).drop at_)).f] 63))); clear hb3))
            refine bodyPost_ret (v := .tuple #[.slice none 0 0, .int .i64 at_, .int .i64 9]) (by simp [results, Tryz.results13, go_sem]) rfl ?_
            exact ⟨_, by rw [HWD.out], by rw [HWD.out]; exact Own.nil _ _ _, fun _ => rfl, HI3.out.be⟩
        · skip
          have hc1 : clsB (s[e]'hel) = 1 := by
            have hg : s.getD e 0 = s[e]'hel := by rw [List.getD_eq_getElem?_getD, List.getElem?_eq_getElem hel]; rfl
            rw [hg] at hnx
            exact Decidable.byContradiction fun h => hnx ⟨hel, h⟩
          have HC2 := Lib.hid fun W => refClass_any (s[e]'hel) W
          have e2 : (clsB (s[e]'hel) != 1) = false := by rw [hc1]; rfl
          have k4 : (0 : Int) ≤ (e : Int) := by omega
          clear hc1 hnx
          generalize hc2 : clsB (s[e]'hel) = c2 at *
          clear hc2
          rcases hlast with hL | hL | ⟨n1, n2⟩
          · have HLT := Lib.hid hL
            rw [if_neg (fun h => h (hcw.2 (by rw [hL]; simp)))] at hck
            clear hL hcw
            cases hx : (piecesL ((s.take e).drop at_)).any Pc.ex with
            | true =>
              have v3 : (valueL ((s.take e).drop at_)).2 = false := by rw [v1, hx]; rfl
              rw [hx] at HEX
              rw [if_pos v3] at hck
              rw [hck, if_pos (by decide)] at hwd
              have HWD := Lib.hid hwd
              clear hx hwd hck v1 v2 v3 hvt h35 he0
              go_wp2_with (first
                | (with_reducible (go_at_call 26; refine (HCL.out _).mono ?_; rintro e w' ⟨rfl, rfl⟩))
                | (with_reducible (go_at_call 26; refine (HC2.out _).mono ?_; rintro e w' ⟨rfl, rfl⟩))
                | (go_at_call 27; refine HEN.out.mono ?_; rintro e' w2 ⟨rfl, hb2⟩; have HI2 := Lib.hid (HI.out.below hb2); clear hb2)
                | (go_at_call 28; refine (HRU.out _).mono ?_; rintro e' w3 ⟨v, rfl, hsr, hb3⟩; obtain ⟨A, cp, rfl, -⟩ := hsr.form; rw [HLT.out]; have HI3 := Lib.hid ((HI2.out.below hb3).below (below_alloc (Below.refl _ _) (.cells #[.string (B [84]), .slice A (run ((s.take e).drop at_)).l.length cp, .bool (run ((s.take e).drop at_)).f] 63))); clear hb3)
                | (go_at_call 29; refine (HEX.out _).mono ?_; rintro e' w4 ⟨rfl, hb4⟩; have HI4 := Lib.hid (HI3.out.below hb4); have hwz4 := HI4.out.be.size; clear hb4))
              refine bodyPost_ret (v := .tuple #[.slice none 0 0, .int .i64 at_, .int .i64 8]) (by simp [results, Tryz.results13, go_sem]) rfl ?_
              exact ⟨_, by rw [HWD.out], by rw [HWD.out]; exact Own.nil _ _ _, fun _ => rfl, HI4.out.be⟩
            | false =>
              have v3 : (valueL ((s.take e).drop at_)).2 = true := by rw [v1, hx]; rfl
              rw [hx] at HEX
              rw [if_neg (by rw [v3]; simp)] at hck
              rw [hck, if_neg (by simp), hvt, v2 hx] at hwd
              obtain ⟨q, hq⟩ : ∃ q, txL (piecesL ((s.take e).drop at_)) = q := ⟨_, rfl⟩
              rw [hq] at hwd HBA
              obtain ⟨g, hg⟩ : ∃ g, f = g + 1 := ⟨f - 1, by have := HI.out.ft; omega⟩
              have hft := HI.out.ft
              subst hg
              have HWD := Lib.hid hwd
              clear hx hwd hck v1 v2 v3 hvt h35 he0 hq
              go_wp2_with (first
                | (with_reducible (go_at_call 26; refine (HCL.out _).mono ?_; rintro e w' ⟨rfl, rfl⟩))
                | (with_reducible (go_at_call 26; refine (HC2.out _).mono ?_; rintro e w' ⟨rfl, rfl⟩))
                | (go_at_call 27; refine HEN.out.mono ?_; rintro e' w2 ⟨rfl, hb2⟩; have HI2 := Lib.hid (HI.out.below hb2); clear hb2)
                | (go_at_call 28; refine (HRU.out _).mono ?_; rintro e' w3 ⟨v, rfl, hsr, hb3⟩; obtain ⟨A, cp, rfl, -⟩ := hsr.form; rw [HLT.out]; have HI3 := Lib.hid ((HI2.out.below hb3).below (below_alloc (Below.refl _ _) (.cells #[.string (B [84]), .slice A (run ((s.take e).drop at_)).l.length cp, .bool (run ((s.take e).drop at_)).f] 63))); clear hb3)
                | (go_at_call 29; refine (HEX.out _).mono ?_; rintro e' w4 ⟨rfl, hb4⟩; have HI4 := Lib.hid (HI3.out.below hb4); have hwz4 := HI4.out.be.size; clear hb4)
                | (go_at_call 30; refine (HBA.out _).mono ?_; rintro e' w5 ⟨rfl, hb5⟩; have HI5 := Lib.hid (HI4.out.below hb5); have hwz5 := HI5.out.be.size; clear hb5)
                | ((at_builtin; refine wpList_append_src _ rfl (.tmp 66) (.tmp 72) _ rfl w.heap.size 9 i0 _ 1 16 Tryz.underlying24 hi0 hz00 hz01 hz02 rfl (by decide) _ out.length (out.flatMap strC) rfl (HI5.out.own.below (below_alloc (Below.refl _ _) _)) _ 1 [.string (B q)] rfl rfl (Src.one _ _ _ _) (by simp [Value.oneCell']) (by unfold maxLen; omega) (by omega) (by first | (simp; done) | omega | (simp; omega)) ?_; intro v6 w6 hown6 hg6 hat6 hty6; have HTY6 := Lib.hid hty6; clear hty6); have HO6 := Lib.hid hown6; have HB6 := Lib.hid (below_keeps (below_alloc HI5.out.be _) hg6 (fun k q => q.2)); clear hown6 hg6 hat6))
              go_roundw
              case rel => exact ⟨e, g, out ++ [q], _, _, rfl, rfl, rfl, Lib.hid ⟨HWD.out, by omega, by rw [List.length_append, List.flatMap_append]; exact HO6.out, fun h => by simp at h, HB6.out, hwl.2, by rw [List.length_append]; simp; omega⟩⟩
              case measure => simp [intOf]; omega
          · have HLT := Lib.hid hL
            rw [if_neg (fun h => h (hcw.2 (by rw [hL]; simp)))] at hck
            clear hL hcw
            cases hx : (piecesL ((s.take e).drop at_)).any Pc.ex with
            | true =>
              have v3 : (valueL ((s.take e).drop at_)).2 = false := by rw [v1, hx]; rfl
              rw [hx] at HEX
              rw [if_pos v3] at hck
              rw [hck, if_pos (by decide)] at hwd
              have HWD := Lib.hid hwd
              clear hx hwd hck v1 v2 v3 hvt h35 he0
              go_wp2_with (first
                | (with_reducible (go_at_call 26; refine (HCL.out _).mono ?_; rintro e w' ⟨rfl, rfl⟩))
                | (with_reducible (go_at_call 26; refine (HC2.out _).mono ?_; rintro e w' ⟨rfl, rfl⟩))
                | (go_at_call 27; refine HEN.out.mono ?_; rintro e' w2 ⟨rfl, hb2⟩; have HI2 := Lib.hid (HI.out.below hb2); clear hb2)
                | (go_at_call 28; refine (HRU.out _).mono ?_; rintro e' w3 ⟨v, rfl, hsr, hb3⟩; obtain ⟨A, cp, rfl, -⟩ := hsr.form; rw [HLT.out]; have HI3 := Lib.hid ((HI2.out.below hb3).below (below_alloc (Below.refl _ _) (.cells #[.string (B [84, 76]), .slice A (run ((s.take e).drop at_)).l.length cp, .bool (run ((s.take e).drop at_)).f] 63))); clear hb3)
                | (go_at_call 29; refine (HEX.out _).mono ?_; rintro e' w4 ⟨rfl, hb4⟩; have HI4 := Lib.hid (HI3.out.below hb4); have hwz4 := HI4.out.be.size; clear hb4))
              refine bodyPost_ret (v := .tuple #[.slice none 0 0, .int .i64 at_, .int .i64 8]) (by simp [results, Tryz.results13, go_sem]) rfl ?_
              exact ⟨_, by rw [HWD.out], by rw [HWD.out]; exact Own.nil _ _ _, fun _ => rfl, HI4.out.be⟩
            | false =>
              have v3 : (valueL ((s.take e).drop at_)).2 = true := by rw [v1, hx]; rfl
              rw [hx] at HEX
              rw [if_neg (by rw [v3]; simp)] at hck
              rw [hck, if_neg (by simp), hvt, v2 hx] at hwd
              obtain ⟨q, hq⟩ : ∃ q, txL (piecesL ((s.take e).drop at_)) = q := ⟨_, rfl⟩
              rw [hq] at hwd HBA
              obtain ⟨g, hg⟩ : ∃ g, f = g + 1 := ⟨f - 1, by have := HI.out.ft; omega⟩
              have hft := HI.out.ft
              subst hg
              have HWD := Lib.hid hwd
              clear hx hwd hck v1 v2 v3 hvt h35 he0 hq
              go_wp2_with (first
                | (with_reducible (go_at_call 26; refine (HCL.out _).mono ?_; rintro e w' ⟨rfl, rfl⟩))
                | (with_reducible (go_at_call 26; refine (HC2.out _).mono ?_; rintro e w' ⟨rfl, rfl⟩))
                | (go_at_call 27; refine HEN.out.mono ?_; rintro e' w2 ⟨rfl, hb2⟩; have HI2 := Lib.hid (HI.out.below hb2); clear hb2)
                | (go_at_call 28; refine (HRU.out _).mono ?_; rintro e' w3 ⟨v, rfl, hsr, hb3⟩; obtain ⟨A, cp, rfl, -⟩ := hsr.form; rw [HLT.out]; have HI3 := Lib.hid ((HI2.out.below hb3).below (below_alloc (Below.refl _ _) (.cells #[.string (B [84, 76]), .slice A (run ((s.take e).drop at_)).l.length cp, .bool (run ((s.take e).drop at_)).f] 63))); clear hb3)
                | (go_at_call 29; refine (HEX.out _).mono ?_; rintro e' w4 ⟨rfl, hb4⟩; have HI4 := Lib.hid (HI3.out.below hb4); have hwz4 := HI4.out.be.size; clear hb4)
                | (go_at_call 30; refine (HBA.out _).mono ?_; rintro e' w5 ⟨rfl, hb5⟩; have HI5 := Lib.hid (HI4.out.below hb5); have hwz5 := HI5.out.be.size; clear hb5)
                | ((at_builtin; refine wpList_append_src _ rfl (.tmp 66) (.tmp 72) _ rfl w.heap.size 9 i0 _ 1 16 Tryz.underlying24 hi0 hz00 hz01 hz02 rfl (by decide) _ out.length (out.flatMap strC) rfl (HI5.out.own.below (below_alloc (Below.refl _ _) _)) _ 1 [.string (B q)] rfl rfl (Src.one _ _ _ _) (by simp [Value.oneCell']) (by unfold maxLen; omega) (by omega) (by first | (simp; done) | omega | (simp; omega)) ?_; intro v6 w6 hown6 hg6 hat6 hty6; have HTY6 := Lib.hid hty6; clear hty6); have HO6 := Lib.hid hown6; have HB6 := Lib.hid (below_keeps (below_alloc HI5.out.be _) hg6 (fun k q => q.2)); clear hown6 hg6 hat6))
              go_roundw
              case rel => exact ⟨e, g, out ++ [q], _, _, rfl, rfl, rfl, Lib.hid ⟨HWD.out, by omega, by rw [List.length_append, List.flatMap_append]; exact HO6.out, fun h => by simp at h, HB6.out, hwl.2, by rw [List.length_append]; simp; omega⟩⟩
              case measure => simp [intOf]; omega
          · rw [if_pos (fun h => (hcw.1 h).elim n1 n2)] at hck
            rw [hck, if_pos (by decide)] at hwd
            have HWD := Lib.hid hwd
            obtain ⟨L, hL⟩ : ∃ L, lets (run ((s.take e).drop at_)).l = L := ⟨_, rfl⟩
            rw [hL] at n1 n2
            have HLT := Lib.hid hL
            have n3 : (L == [84]) = false := by simpa using n1
            have n4 : (L == [84, 76]) = false := by simpa using n2
            clear hL hcw hwd hck v1 v2 hvt h35 he0
            go_wp2_with (first
              | (with_reducible (go_at_call 26; refine (HCL.out _).mono ?_; rintro e w' ⟨rfl, rfl⟩))
              | (with_reducible (go_at_call 26; refine (HC2.out _).mono ?_; rintro e w' ⟨rfl, rfl⟩))
              | (go_at_call 27; refine HEN.out.mono ?_; rintro e' w2 ⟨rfl, hb2⟩; have HI2 := Lib.hid (HI.out.below hb2); clear hb2)
              | (go_at_call 28; refine (HRU.out _).mono ?_; rintro e' w3 ⟨v, rfl, hsr, hb3⟩; obtain ⟨A, cp, rfl, -⟩ := hsr.form; rw [HLT.out]; have HI3 := Lib.hid ((HI2.out.below hb3).below (below_alloc (Below.refl _ _) (.cells #[.string (B L), .slice A (run ((s.take e).drop at_)).l.length cp, .bool (run ((s.take e).drop at_)).f] 63))); clear hb3))
            refine bodyPost_ret (v := .tuple #[.slice none 0 0, .int .i64 at_, .int .i64 9]) (by simp [results, Tryz.results13, go_sem]) rfl ?_
            exact ⟨_, by rw [HWD.out], by rw [HWD.out]; exact Own.nil _ _ _, fun _ => rfl, HI3.out.be⟩
    · have heq := HI.out.eq
      have hat : at_ = s.length := by omega
      rw [hat, List.drop_length] at heq
      have HEQ := Lib.hid (show splitL s = (out, 0, 0) by
        rw [heq]
        show splitW s (if s.length + 0 < s.length then _ else []) out = _
        rw [if_neg (by omega)]
        rfl)
      clear heq hat
      go_wp2
      refine bodyPost_ret (v := .tuple #[o, .int .i64 0, .int .i64 0]) (by simp [results, Tryz.results13, go_sem]) rfl ?_
      exact ⟨o, by rw [HEQ.out]; rfl, by rw [HEQ.out]; exact HI.out.own, by rw [HEQ.out]; exact HI.out.nil, HI.out.be⟩
end Go.Proofs.YtadaeecokkokjaaGreat.Li
