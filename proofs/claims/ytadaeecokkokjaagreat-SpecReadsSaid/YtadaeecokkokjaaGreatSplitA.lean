/-
  The walks of layer 17 (quoting), on: where the words of a text stand; what is wrong with a word; Split. Conditions: texts of at most 30000 bytes.
-/
import Derived.Test.YtadaeecokkokjaaGreatMachC
import Derived.Test.YtadaeecokkokjaaGreatLitV
import Derived.Test.YtadaeecokkokjaaGreatIterB
set_option linter.unusedSimpArgs false
set_option linter.unusedVariables false
namespace Go.Proofs.YtadaeecokkokjaaGreat.Quo
open Go.ChangeShapes Go.WideShapes Go.Deep Go.RowKit Cls Md Mc Pa Li Go.Shelf
attribute [local go_sem] Oper.semAt_some
set_option maxRecDepth 100000
/-- Where the words of a text stand, from a place on. -/
def wordsF (s : List UInt8) : Nat → Nat → List (Nat × Nat)
  | 0, _ => []
  | f + 1, a => if a < s.length then (a, wendN s a) :: (if wendN s a = a then [] else wordsF s f (wendN s a + spanN blankB (s.drop (wendN s a)))) else []
def wordsL (s : List UInt8) : List (Nat × Nat) := wordsF s (s.length + 1) (spanN blankB (s.drop 0))
theorem blank_le (s : List UInt8) (a : Nat) (h : a ≤ s.length) : a + spanN blankB (s.drop a) ≤ s.length := by
  have := spanN_le blankB (s.drop a)
  rw [List.length_drop] at this
  omega
theorem wordsF_in {s : List UInt8} : ∀ (f a : Nat), a ≤ s.length → ∀ x ∈ wordsF s f a, x.1 ≤ x.2 ∧ x.2 ≤ s.length := by
  intro f
  induction f with
  | zero => intro a _ x hx; cases hx
  | succ f ih =>
    intro a ha x hx
    rw [wordsF] at hx
    split at hx
    · have := wendN_le (s := s) ha
      rcases List.mem_cons.1 hx with rfl | hx
      · exact this
      · split at hx
        · cases hx
        · exact ih _ (blank_le s _ this.2) x hx
    · cases hx
theorem wordsL_in {s : List UInt8} : ∀ x ∈ wordsL s, x.1 ≤ x.2 ∧ x.2 ≤ s.length := wordsF_in _ _ (by have := blank_le s 0 (Nat.zero_le _); omega)
theorem wordsF_len {s : List UInt8} : ∀ (f a : Nat), (wordsF s f a).length ≤ f := by
  intro f
  induction f with
  | zero => intro a; exact Nat.le_refl _
  | succ f ih =>
    intro a
    rw [wordsF]
    split
    · rw [List.length_cons]
      split
      · simp
      · have := ih (wendN s a + spanN blankB (s.drop (wendN s a))); omega
    · simp
def encW (x : Nat × Nat) : Array Value := #[.int .i64 x.1, .int .i64 x.2]
@[go_sem] theorem encW_eq (x : Nat × Nat) : encW x = #[.int .i64 (x.1 : Nat), .int .i64 (x.2 : Nat)] := rfl
set_option maxHeartbeats 1000000 in
theorem words1 (n : Nat) (hn : 1 ≤ n) (l b1 : Nat) (s : List UInt8) (hs : s.length ≤ 536870912) (J Jx : List (Nat × Nat) → World → Prop)
    (hY : ∀ pre x W, J pre W → pre ++ [x] <+: wordsL s → YieldAt Fence.wide (n - 1) Tryz.prog l (encW x) W fun e W' =>
      (e = .returned (.bool true) ∧ J (pre ++ [x]) W' ∧ KeepG (fun k => k = b1) W W') ∨ (e = .returned (.bool false) ∧ Jx (pre ++ [x]) W'))
    (hJb : ∀ pre W W', Below W.heap.size W W' → J pre W → J pre W')
    (W : World) (h1 : W.cell? ⟨b1, 0, none⟩ = some (.string (B s))) (h0 : J [] W) :
    CallsIn Fence.wide n Tryz.prog 32 #[.func (.yield l) #[] #[], .pointer (some ⟨b1, 0, none⟩)] W fun e W' => (∃ v, e = .returned v) ∧
      ((∃ ys, ys = wordsL s ∧ J ys W') ∨ (∃ pre, pre <+: wordsL s ∧ Jx pre W')) := by
  have HY := Lib.hid hY
  have HJB := Lib.hid hJb
  have H0 := Lib.hid h0
  have HBL := Lib.hid fun (a : Nat) w (h : a ≤ s.length) => blanks_any s a w (by omega) h
  have HEN := Lib.hid fun (a : Nat) w (h : a ≤ s.length) => mend_any s a w hs h
  have HB0 := Lib.hid (blanks_any s 0 W (by omega) (Nat.zero_le _))
  have hb1 : b1 < W.heap.size := World.block_lt_of_cell? W _ h1
  have hbl0 := blank_le s 0 (Nat.zero_le _)
  clear hY hJb h0
  haveI : Old W b1 := ⟨hb1⟩
  have HWL : Hid (wordsL s = [] ++ wordsF s (s.length + 1) (spanN blankB (s.drop 0))) := Lib.hid rfl
  refine callsIn_of_wp Tryz.func32 rfl trivial ?_ rfl
  simp only [Tryz.ntmps32, List.size_toArray, List.length_cons, List.length_nil, Nat.reduceAdd, Nat.reduceSub, Array.replicate_succ, Array.replicate_zero, List.push_toArray, List.append_toArray, List.nil_append, List.cons_append]
  gi_wp2
  refine (callsIn_wide.2 HB0.out).mono ?_
  rintro e w1 ⟨rfl, rfl⟩
  clear HB0
  generalize spanN blankB (s.drop 0) = a0 at *
  have H1 := Lib.hid h1
  clear h1
  gi_wp2
  gi_loopw [3] (fun i wr => ∃ (a f : Nat) (pre : List (Nat × Nat)), a ≤ s.length ∧ s.length + 1 ≤ f + a ∧ i = .int .i64 a ∧ Hid (wordsL s = pre ++ wordsF s f a) ∧ Hid (J pre wr) ∧ Hid (KeepG (fun k => k = b1) W wr)) (fun i _ => s.length - (intOf i).toNat)
  case atStart => exact ⟨a0, s.length + 1, [], by omega, by omega, rfl, HWL, H0, Lib.hid (fun _ _ => rfl)⟩
  case round =>
    clear H0 HWL
    obtain ⟨a, f, pre, ha, hf, rfl, HP, HJ, HK⟩ := hrel
    have z1 := (HK.out.cell (o := 0) rfl).trans H1.out
    have hbr : b1 < wr.heap.size := World.block_lt_of_cell? wr _ z1
    haveI : Old wr b1 := ⟨hbr⟩
    by_cases hlt : a < s.length
    · have q1 : (a : Int) < (s.length : Int) := by omega
      obtain ⟨f', rfl⟩ : ∃ f', f = f' + 1 := ⟨f - 1, by omega⟩
      have hp := HP.out
      rw [wordsF, if_pos hlt] at hp
      have hwe := wendN_le (s := s) ha
      have HE := Lib.hid (HEN.out a wr ha)
      generalize wendN s a = e1 at *
      have HBE := Lib.hid fun w => HBL.out e1 w hwe.2
      have hble := blank_le s e1 hwe.2
      have hpre : pre ++ [(a, e1)] <+: wordsL s := ⟨_, by rw [hp, List.append_assoc]; rfl⟩
      have HPR := Lib.hid hpre
      have HP2 := Lib.hid hp
      clear hp hpre
      gi_wp2
      refine (callsIn_wide.2 HE.out).mono ?_
      rintro e w2 ⟨rfl, hb2⟩
      have HJ2 := Lib.hid (HJB.out _ _ _ hb2 HJ.out)
      have z2 := (hb2.cell (p := ⟨b1, 0, none⟩) hbr).trans z1
      have HK2 := Lib.hid (KeepG.of_below (G := fun k => k = b1) hb2 (fun k hk => by subst hk; exact hbr))
      haveI : Old w2 b1 := ⟨Nat.lt_of_lt_of_le hbr hb2.size⟩
      obtain ⟨fn, tmps, assign, body, hy, hR⟩ := HY.out _ (a, e1) _ HJ2.out HPR.out
      have HEW : Hid (encW (a, e1) = #[.int .i64 a, .int .i64 e1]) := Lib.hid rfl
      rw [HEW.out] at hy
      clear hb2
      gi_wp2
      refine hR.mono ?_
      rintro e W3 (⟨rfl, hJ3, hk3⟩ | ⟨rfl, hJx3⟩)
      · have HJ3 := Lib.hid hJ3
        have HK3 := Lib.hid (fun j hj => (hk3 j hj).trans ((HK2.out j hj).trans (HK.out j hj)))
        have z3 := (KeepG.cell hk3 (o := 0) rfl).trans z2
        haveI : Old W3 b1 := ⟨World.block_lt_of_cell? W3 _ z3⟩
        clear hk3 hJ3
        by_cases heq : e1 = a
        · subst heq
          rw [if_pos rfl] at HP2
          gi_wp2
          refine bodyPost_ret (results_none rfl _ _ _) rfl ?_
          exact ⟨⟨_, rfl⟩, .inl ⟨_, HP2.out.symm, HJ3.out⟩⟩
        · have h9 : ((e1 : Int) == (a : Int)) = false := by rw [beq_eq_false_iff_ne]; omega
          rw [if_neg heq] at HP2
          gi_wp2
          refine (callsIn_wide.2 (HBE.out _)).mono ?_
          rintro e w5 ⟨rfl, rfl⟩
          generalize spanN blankB (s.drop e1) = m at *
          have q2 : IntKind.i64.wrap ((e1 : Int) + (m : Int)) = (e1 : Int) + (m : Int) := IntWalk.i64_in _ (by omega)
          gi_wp2
          go_roundw
          case rel => exact ⟨e1 + m, f', _, by omega, by omega, by go_num, by rw [HP2.out, List.append_assoc]; exact Lib.hid rfl, HJ3, HK3⟩
          case measure => simp [intOf]; omega
      · have HJ3 := Lib.hid hJx3
        clear hJx3
        gi_wp2
        refine bodyPost_ret (results_none rfl _ _ _) rfl ?_
        exact ⟨⟨_, rfl⟩, .inr ⟨_, HPR.out, HJ3.out⟩⟩
    · have q1 : ¬ (a : Int) < (s.length : Int) := by omega
      have hp : wordsL s = pre := by
        rw [HP.out]
        cases f with
        | zero => rw [wordsF, List.append_nil]
        | succ f => rw [wordsF, if_neg hlt, List.append_nil]
      have HP2 := Lib.hid hp
      clear hp hlt
      gi_wp2
      go_end0
      exact ⟨⟨_, rfl⟩, .inl (by rw [HP2.out]; exact HJ.out)⟩
theorem words_gives (s : List UInt8) (hs : s.length ≤ 536870912) (b1 : Nat) (w : World) (h1 : w.cell? ⟨b1, 0, none⟩ = some (.string (B s))) :
    GivesW Tryz.prog 32 #[.pointer (some ⟨b1, 0, none⟩)] encW (fun k => k = b1) b1 (wordsL s) w := by
  intro n hn l J Jx W hW hJ _ hY h0
  have hb1 : b1 < w.heap.size := World.block_lt_of_cell? w _ h1
  refine (words1 n hn l b1 s hs J Jx hY (fun pre A C hb h => hJ pre A C (Keeps.of_below hb) h) W ((hW.cell (p := ⟨b1, 0, none⟩) hb1).trans h1) h0).mono ?_
  rintro e W' ⟨h1, h2⟩
  refine ⟨h1, ?_⟩
  rcases h2 with ⟨ys, rfl, h⟩ | h
  · exact .inl h
  · exact .inr h
theorem words_any (s : List UInt8) (w : World) : Calls Tryz.prog 17 #[.string (B s)] w fun e w' => e = .returned (.func (.func 32) #[] #[.pointer (some ⟨w.heap.size, 0, none⟩)]) ∧ w' = w.alloc (.cells #[.string (B s)] 9) := by
  go_enter Tryz.func17, Tryz.ntmps17
  go_wp2
  go_ret
  exact ⟨rfl, rfl⟩
/-- What is wrong with a word; 0: nothing is. -/
def chkN (s : List UInt8) (a e : Nat) : Int :=
  if subT s a e = [] then 4 else if (subT s a e).getD 0 0 = 35 then 4 else if e < s.length ∧ clsB (s.getD e 0) ≠ 1 then 4
  else if closL (run (subT s a e)).l ≠ [] then 9 else if (valueL (subT s a e)).2 = false then 8 else 0
set_option maxHeartbeats 1000000 in
theorem check_any (s : List UInt8) (a e : Nat) (w : World) (hs : s.length ≤ 30000) (hae : a ≤ e) (he : e ≤ s.length) :
    Calls Tryz.prog 18 #[.string (B s), .int .i64 a, .int .i64 e] w fun e' w' => e' = .returned (.int .i64 (chkN s a e)) ∧ Below w.heap.size w w' := by
  obtain ⟨t, ht⟩ : ∃ t, (s.take e).drop a = t := ⟨_, rfl⟩
  have htl : t.length ≤ 30000 := by rw [← ht, List.length_drop, List.length_take]; omega
  have HV := Lib.hid fun w => value_any t w htl
  have HC := Lib.hid fun w => closing_any t w (by omega)
  have hN : chkN s a e = if t = [] then 4 else if t.getD 0 0 = 35 then 4 else if e < s.length ∧ clsB (s.getD e 0) ≠ 1 then 4 else if closL (run t).l ≠ [] then 9 else if (valueL t).2 = false then 8 else 0 := by
    unfold chkN subT; rw [ht]
  rw [hN]
  clear hN
  generalize closL (run t).l = cl at *
  obtain ⟨v, hv⟩ : ∃ v, valueL t = v := ⟨_, rfl⟩
  rw [hv] at HV ⊢
  clear hv
  obtain ⟨v1, v2⟩ := v
  dsimp only at HV ⊢
  have p0 : (0 : Int) ≤ (a : Int) := by omega
  have p1 : (a : Int) ≤ (e : Int) := by omega
  have p2 : (e : Int) ≤ (s.length : Int) := by omega
  have p3 : (0 : Int) ≤ (e : Int) := by omega
  by_cases h0 : t = []
  · subst h0
    rw [if_pos rfl]
    clear HV HC htl
    go_enter Tryz.func18, Tryz.ntmps18
    go_wp2
    go_ret
    exact ⟨rfl, by (repeat (first | exact Below.refl _ _ | assumption | with_reducible refine below_alloc ?_ _ | with_reducible refine below_grow ?_ _ | with_reducible refine below_drewN ?_ _ | with_reducible refine below_drew ?_ | with_reducible refine below_setCell ?_ (by first | (dsimp only; omega) | (simp; done) | (simp; omega)) _))⟩
  rw [if_neg h0]
  have t0 : (t == []) = false := by simpa using h0
  have tl : 0 < t.length := List.length_pos_iff.2 h0
  have t1 : (0 : Int) < (t.length : Int) := by omega
  have hg : t.getD 0 0 = t[0] := by rw [List.getD_eq_getElem?_getD, List.getElem?_eq_getElem tl]; rfl
  rw [hg]
  clear hg h0
  by_cases h35 : t[0] = 35
  · have m35 : ((t[0].toNat : Int) == 35) = true := by rw [h35]; rfl
    rw [if_pos h35]
    clear HV HC htl h35
    go_enter Tryz.func18, Tryz.ntmps18
    go_wp2
    go_ret
    exact ⟨rfl, by (repeat (first | exact Below.refl _ _ | assumption | with_reducible refine below_alloc ?_ _ | with_reducible refine below_grow ?_ _ | with_reducible refine below_drewN ?_ _ | with_reducible refine below_drew ?_ | with_reducible refine below_setCell ?_ (by first | (dsimp only; omega) | (simp; done) | (simp; omega)) _))⟩
  rw [if_neg h35]
  have m35 := Pat.not_b (n := 35) rfl h35
  clear h35
  by_cases hel : e < s.length
  · have e1 : decide ((e : Int) < (s.length : Int)) = true := decide_eq_true (by omega)
    have e2 : (e : Int) < (s.length : Int) := by omega
    have hg : s.getD e 0 = s[e] := by rw [List.getD_eq_getElem?_getD, List.getElem?_eq_getElem hel]; rfl
    rw [hg]
    have HO := Lib.hid fun w => of_any s[e] w
    generalize clsB s[e] = q at *
    by_cases hq : q = 1
    · rw [if_neg (fun h => h.2 hq)]
      have q1 : (q != 1) = false := by rw [hq]; rfl
      have HG := Lib.hid hq
      clear hq hg
      by_cases hc : cl = []
      · subst hc
        rw [if_neg (by simp)]
        cases v2 with
        | true =>
          rw [if_neg (by simp)]
          go_enter Tryz.func18, Tryz.ntmps18
          go_wp2_with (first
            | (go_at_call 35; refine (HO.out _).mono ?_; rintro e w' ⟨rfl, rfl⟩)
            | (go_at_call 36; refine (HC.out _).mono ?_; rintro e w2 ⟨rfl, hb⟩; have HB2 := Lib.hid hb; clear hb)
            | (go_at_call 19; refine (HV.out _).mono ?_; rintro e w3 ⟨rfl, hb⟩; have HB3 := Lib.hid (below_then HB2.out hb); clear hb))
          go_ret
          exact ⟨rfl, HB3.out⟩
        | false =>
          rw [if_pos rfl]
          go_enter Tryz.func18, Tryz.ntmps18
          go_wp2_with (first
            | (go_at_call 35; refine (HO.out _).mono ?_; rintro e w' ⟨rfl, rfl⟩)
            | (go_at_call 36; refine (HC.out _).mono ?_; rintro e w2 ⟨rfl, hb⟩; have HB2 := Lib.hid hb; clear hb)
            | (go_at_call 19; refine (HV.out _).mono ?_; rintro e w3 ⟨rfl, hb⟩; have HB3 := Lib.hid (below_then HB2.out hb); clear hb))
          go_ret
          exact ⟨rfl, HB3.out⟩
      · rw [if_pos hc]
        have c0 : (cl == []) = false := by simpa using hc
        have c1 : (cl != []) = true := by simpa using hc
        go_enter Tryz.func18, Tryz.ntmps18
        go_wp2_with (first
          | (go_at_call 35; refine (HO.out _).mono ?_; rintro e w' ⟨rfl, rfl⟩)
          | (go_at_call 36; refine (HC.out _).mono ?_; rintro e w2 ⟨rfl, hb⟩; have HB2 := Lib.hid hb; clear hb))
        go_ret
        exact ⟨rfl, HB2.out⟩
    · rw [if_pos ⟨hel, hq⟩]
      have q1 : (q != 1) = true := by simpa using hq
      clear HV HC htl hq hg
      go_enter Tryz.func18, Tryz.ntmps18
      go_wp2_with (go_at_call 35; refine (HO.out _).mono ?_; rintro e w' ⟨rfl, rfl⟩)
      go_ret
      exact ⟨rfl, by (repeat (first | exact Below.refl _ _ | assumption | with_reducible refine below_alloc ?_ _ | with_reducible refine below_grow ?_ _ | with_reducible refine below_drewN ?_ _ | with_reducible refine below_drew ?_ | with_reducible refine below_setCell ?_ (by first | (dsimp only; omega) | (simp; done) | (simp; omega)) _))⟩
  · have e1 : decide ((e : Int) < (s.length : Int)) = false := decide_eq_false (by omega)
    have e2 : ¬ (e : Int) < (s.length : Int) := by omega
    have e3 : (s.length : Int) ≤ (e : Int) := by omega
    have e4 : e = s.length := by omega
    rw [if_neg (fun h => hel h.1)]
    clear hel
    subst e4
    rw [List.take_length] at ht
    by_cases hc : cl = []
    · subst hc
      rw [if_neg (by simp)]
      cases v2 with
      | true =>
        rw [if_neg (by simp)]
        go_enter Tryz.func18, Tryz.ntmps18
        go_wp2_with (first
          | (go_at_call 36; refine (HC.out _).mono ?_; rintro e w2 ⟨rfl, hb⟩; have HB2 := Lib.hid hb; clear hb)
          | (go_at_call 19; refine (HV.out _).mono ?_; rintro e w3 ⟨rfl, hb⟩; have HB3 := Lib.hid (below_then HB2.out hb); clear hb))
        go_ret
        exact ⟨rfl, HB3.out⟩
      | false =>
        rw [if_pos rfl]
        go_enter Tryz.func18, Tryz.ntmps18
        go_wp2_with (first
          | (go_at_call 36; refine (HC.out _).mono ?_; rintro e w2 ⟨rfl, hb⟩; have HB2 := Lib.hid hb; clear hb)
          | (go_at_call 19; refine (HV.out _).mono ?_; rintro e w3 ⟨rfl, hb⟩; have HB3 := Lib.hid (below_then HB2.out hb); clear hb))
        go_ret
        exact ⟨rfl, HB3.out⟩
    · rw [if_pos hc]
      have c0 : (cl == []) = false := by simpa using hc
      have c1 : (cl != []) = true := by simpa using hc
      go_enter Tryz.func18, Tryz.ntmps18
      go_wp2_with (first
        | (go_at_call 36; refine (HC.out _).mono ?_; rintro e w2 ⟨rfl, hb⟩; have HB2 := Lib.hid hb; clear hb))
      go_ret
      exact ⟨rfl, HB2.out⟩
end Go.Proofs.YtadaeecokkokjaaGreat.Quo
namespace Go.Proofs.YtadaeecokkokjaaGreat.Quo
open Go.ChangeShapes Go.WideShapes Go.Deep Go.RowKit Cls Md Mc Pa Li Go.Shelf
attribute [local go_sem] Oper.semAt_some
set_option maxRecDepth 100000
/-- The caller's loop, with two loop variables that are no boxes. -/
theorem wpIn_iterW2 {P : Program} {α : Type} {n : Nat} {g : Operand} {assign body : Code} {Q : Exit → Act → World → Prop} {a : Act} {w : World} (t1 t2 v1 v2 : Nat) (f1 f2 : α → Value) (h2 : 2 ≤ n) {gf : Nat} {lb : Array Value} (hg : a.eval g = .func (.func gf) #[] lb) (eg : ∀ args w, (callFunc gf args).run P w = .ok (.enter gf args) w)
    {G : Nat → Prop} {b : Nat} {xs : List α} (hseq : GivesW P gf lb (fun x => #[f1 x, f2 x]) G b xs w) (hb : b < w.heap.size) (hG : ∀ k, G k → k < w.heap.size)
    (I : List α → World → Prop) (Ix : Code → List α → World → Prop) (hI : ∀ s W W', Lull w.heap.size W W' → I s W → I s W') (hIx : ∀ c s W W', Lull w.heap.size W W' → Ix c s W → Ix c s W')
    (hIW : ∀ s W W', Keeps (fun k => k = b) W W' → I s W → I s W') (hIxW : ∀ c s W W', Keeps (fun k => k = b) W W' → Ix c s W → Ix c s W') (h0 : I [] w)
    (hassign : ∀ (l : Nat) (x : α) (W : World) (K : Act → World → Prop), K { tmps := (((a.tmps.setIfInBounds t1 (f1 x)).setIfInBounds t2 (f2 x)).setIfInBounds v1 (f1 x)).setIfInBounds v2 (f2 x), defers := [] } W →
      assign.wpIn (Fence.wide.inRound l) (n - 1 - 1) P (Exit.then K (fun _ _ _ => False)) { tmps := (a.tmps.setIfInBounds t1 (f1 x)).setIfInBounds t2 (f2 x), defers := [] } W)
    (hbody : ∀ (l : Nat) (pre : List α) (x : α) (W : World), w.heap.size ≤ W.heap.size → I pre W → pre ++ [x] <+: xs → body.wpIn (Fence.wide.inRound l) (n - 1 - 1) P (ownPostG w.heap.size (KeepG G) I Ix (pre ++ [x]) W) { tmps := (((a.tmps.setIfInBounds t1 (f1 x)).setIfInBounds t2 (f2 x)).setIfInBounds v1 (f1 x)).setIfInBounds v2 (f2 x), defers := [] } W)
    (hdone : ∀ (D : Nat) (W : World), w.heap.size ≤ D → I xs W → W.heap[D]? = some (.deferred (some [])) → Q .normal { a with defers := { target := .collected D, args := #[] } :: a.defers } W)
    (hstop : ∀ (D : Nat) (c : Code) (pre : List α) (W : World), w.heap.size ≤ D → pre <+: xs → Ix c pre W → W.heap[D]? = some (.deferred (some [])) → c.wpIn Fence.wide n P Q { a with defers := { target := .collected D, args := #[] } :: a.defers } W) :
    (Code.rangeFunc g #[t1, t2] assign body).wpIn Fence.wide n P Q a w := by
  refine wpIn_iterW h2 hg eg hseq hb hG (fun _ => rfl) I Ix hI hIx hIW hIxW h0 (fun x a' _ => a' = { tmps := (((a.tmps.setIfInBounds t1 (f1 x)).setIfInBounds t2 (f2 x)).setIfInBounds v1 (f1 x)).setIfInBounds v2 (f2 x), defers := [] }) (fun _ _ _ _ _ h => h) ?_ ?_ hdone hstop
  · intro l pre x W K hi _ hK
    have := hassign l x W K (hK _ _ (KeepsFrom.refl _ _) (fun _ _ => rfl) hi rfl)
    simpa using this
  · rintro l pre x a' W hs hi rfl hlt
    exact hbody l pre x W hs hi hlt
/-- The value of a word. -/
def valT (s : List UInt8) (x : Nat × Nat) : List UInt8 := (valueL (subT s x.1 x.2)).1
def splitW (s : List UInt8) : List (Nat × Nat) → List (List UInt8) → List (List UInt8) × Nat × Int
  | [], out => (out, 0, 0)
  | x :: r, out => if chkN s x.1 x.2 ≠ 0 then ([], x.1, chkN s x.1 x.2) else splitW s r (out ++ [valT s x])
/-- What a text splits into. -/
def splitL (s : List UInt8) : List (List UInt8) × Nat × Int := splitW s (wordsL s) []
theorem splitW_ok {s : List UInt8} {l : List (Nat × Nat)} (h : ∀ x ∈ l, chkN s x.1 x.2 = 0) (out : List (List UInt8)) : splitW s l out = (out ++ l.map (valT s), 0, 0) := by
  induction l generalizing out with
  | nil => simp [splitW]
  | cons a r ih =>
    rw [splitW, if_neg (by simp [h a (List.mem_cons_self ..)]), ih (fun x hx => h x (List.mem_cons_of_mem _ hx))]
    simp
theorem splitW_bad {s : List UInt8} {l q : List (Nat × Nat)} {x : Nat × Nat} (hq : q ++ [x] <+: l) (h : ∀ y ∈ q, chkN s y.1 y.2 = 0) (hx : chkN s x.1 x.2 ≠ 0) (out : List (List UInt8)) : splitW s l out = ([], x.1, chkN s x.1 x.2) := by
  obtain ⟨t, rfl⟩ := hq
  induction q generalizing out with
  | nil => rw [List.nil_append, List.singleton_append, splitW, if_pos hx]
  | cons a r ih =>
    rw [List.cons_append, List.cons_append, splitW, if_neg (by simp [h a (List.mem_cons_self ..)])]
    exact ih (fun y hy => h y (List.mem_cons_of_mem _ hy)) _
theorem BoxN.lull {A : Nat} {W W' : World} {b : Nat} {u : Value} {cs : List Value} (h : BoxN W b (u :: cs)) (hL : Lull A W W') : BoxN W' b (u :: cs) := h.block (hL.block (h.c 0 _ rfl)) hL.size
theorem box_at (X : World) (cs : List Value) (t : TypeId) (k : Nat) (hk : k = X.heap.size) {Y : World} (h : Below (X.alloc (.cells cs.toArray t)).heap.size (X.alloc (.cells cs.toArray t)) Y) : BoxN Y k cs := by
  subst hk
  exact (BoxN.new X cs t).below h
/-- What holds at each round of Split's loop. -/
structure SpI (s : List UInt8) (w : World) (A : Nat) (pre : List (Nat × Nat)) (v : Value) (W : World) : Prop where
  o : BoxOwn W A (w.heap.size + 1) 1 v pre.length ((pre.map (valT s)).flatMap strC)
  z : pre.length = 0 → v = .slice none 0 0
  bs : BoxN W w.heap.size [.string (B s)]
  b2 : BoxN W (w.heap.size + 1 + 1) [.int .i64 0]
  b3 : BoxN W (w.heap.size + 1 + 1 + 1) [.int .i64 0]
  ok : ∀ x ∈ pre, chkN s x.1 x.2 = 0
  b : Below w.heap.size w W
  sz : A ≤ W.heap.size
structure SpX (s : List UInt8) (w : World) (A : Nat) (pre : List (Nat × Nat)) (W : World) : Prop where
  ex : ∃ q x, pre = q ++ [x] ∧ (∀ y ∈ q, chkN s y.1 y.2 = 0) ∧ chkN s x.1 x.2 ≠ 0 ∧ BoxN W (w.heap.size + 1 + 1) [.int .i64 (x.1 : Nat)] ∧ BoxN W (w.heap.size + 1 + 1 + 1) [.int .i64 (chkN s x.1 x.2)]
  b1 : W.cell? ⟨w.heap.size + 1, 0, none⟩ = some (.slice none 0 0)
  b : Below w.heap.size w W
  sz : A ≤ W.heap.size
section
variable {s : List UInt8} {w W W' : World} {A B : Nat} {pre : List (Nat × Nat)} {v : Value}
theorem SpI.lull (h : SpI s w A pre v W) (hL : Lull B W W') (hB : w.heap.size ≤ B) : SpI s w A pre v W' :=
  ⟨h.o.lull hL, h.z, BoxN.lull h.bs hL, BoxN.lull h.b2 hL, BoxN.lull h.b3 hL, h.ok, hL.below h.b hB (Nat.le_refl _), Nat.le_trans h.sz hL.size⟩
theorem SpI.below (h : SpI s w A pre v W) (hb : Below W.heap.size W W') : SpI s w A pre v W' :=
  ⟨h.o.below hb, h.z, h.bs.below hb, h.b2.below hb, h.b3.below hb, h.ok, below_then h.b hb, Nat.le_trans h.sz hb.size⟩
theorem SpI.keeps {b : Nat} (h : SpI s w A pre v W) (hk : Keeps (fun k => k = b) W W') (h1 : w.heap.size + 1 + 1 + 1 < b) (h2 : b < A) (hv : ∀ k, v.ownBlock = some k → k ≠ b) : SpI s w A pre v W' := by
  have hh : W'.heap[w.heap.size + 1]? = W.heap[w.heap.size + 1]? := hk.block _ h.o.lt (by omega)
  exact ⟨⟨Nat.lt_of_lt_of_le h.o.lt hk.size, (World.cell?_of_block (w := W) hh).trans h.o.c, (World.frozen?_of_block (w := W) hh).trans h.o.f, h.o.own.keeps hk (fun k e _ => hv k e), h.o.ne⟩, h.z, h.bs.keeps hk (by omega), h.b2.keeps hk (by omega), h.b3.keeps hk (by omega), h.ok, below_keeps h.b hk (fun k e => by omega), Nat.le_trans h.sz hk.size⟩
/-- The end with a fault. -/
theorem sp_stop (h : SpI s w A pre v W) (u : Value) (a z : Int) : (((W.setCell ⟨w.heap.size + 1, 0, none⟩ u).setCell ⟨w.heap.size + 1 + 1, 0, none⟩ (.int .i64 a)).setCell ⟨w.heap.size + 1 + 1 + 1, 0, none⟩ (.int .i64 z)).cell? ⟨w.heap.size + 1, 0, none⟩ = some u ∧
    BoxN (((W.setCell ⟨w.heap.size + 1, 0, none⟩ u).setCell ⟨w.heap.size + 1 + 1, 0, none⟩ (.int .i64 a)).setCell ⟨w.heap.size + 1 + 1 + 1, 0, none⟩ (.int .i64 z)) (w.heap.size + 1 + 1) [.int .i64 a] ∧
    BoxN (((W.setCell ⟨w.heap.size + 1, 0, none⟩ u).setCell ⟨w.heap.size + 1 + 1, 0, none⟩ (.int .i64 a)).setCell ⟨w.heap.size + 1 + 1 + 1, 0, none⟩ (.int .i64 z)) (w.heap.size + 1 + 1 + 1) [.int .i64 z] ∧
    Keeps (fun k => w.heap.size + 1 ≤ k ∧ k ≤ w.heap.size + 1 + 1 + 1) W (((W.setCell ⟨w.heap.size + 1, 0, none⟩ u).setCell ⟨w.heap.size + 1 + 1, 0, none⟩ (.int .i64 a)).setCell ⟨w.heap.size + 1 + 1 + 1, 0, none⟩ (.int .i64 z)) := by
  have k1 : Keeps (fun k => k = w.heap.size + 1) W (W.setCell ⟨w.heap.size + 1, 0, none⟩ u) := Keeps.setCell (F := fun k => k = w.heap.size + 1) W (a := ⟨w.heap.size + 1, 0, none⟩) rfl _
  have b1 : (W.setCell ⟨w.heap.size + 1, 0, none⟩ u).cell? ⟨w.heap.size + 1, 0, none⟩ = some u := World.cell?_setCell_same' _ _ _ (by rw [h.o.c]; rfl)
  have b2 := h.b2.keeps k1 (by omega)
  have b3 := h.b3.keeps k1 (by omega)
  generalize W.setCell ⟨w.heap.size + 1, 0, none⟩ u = W1 at *
  have k2 : Keeps (fun k => k = w.heap.size + 1 + 1) W1 (W1.setCell ⟨w.heap.size + 1 + 1, 0, none⟩ (.int .i64 a)) := Keeps.setCell (F := fun k => k = w.heap.size + 1 + 1) W1 (a := ⟨w.heap.size + 1 + 1, 0, none⟩) rfl _
  have b1 := (World.cell?_of_block (w := W1) (k2.block _ (World.block_lt_of_cell? W1 _ b1) (show ¬ w.heap.size + 1 = w.heap.size + 1 + 1 by omega))).trans b1
  have b2 := boxN_set b2 0 (by simp) (.int .i64 a)
  have b3 := b3.keeps k2 (by omega)
  generalize W1.setCell ⟨w.heap.size + 1 + 1, 0, none⟩ (.int .i64 a) = W2 at *
  have k3 : Keeps (fun k => k = w.heap.size + 1 + 1 + 1) W2 (W2.setCell ⟨w.heap.size + 1 + 1 + 1, 0, none⟩ (.int .i64 z)) := Keeps.setCell (F := fun k => k = w.heap.size + 1 + 1 + 1) W2 (a := ⟨w.heap.size + 1 + 1 + 1, 0, none⟩) rfl _
  have b1 := (World.cell?_of_block (w := W2) (k3.block _ (World.block_lt_of_cell? W2 _ b1) (show ¬ w.heap.size + 1 = w.heap.size + 1 + 1 + 1 by omega))).trans b1
  have b2 := b2.keeps k3 (by omega)
  have b3 := boxN_set b3 0 (by simp) (.int .i64 z)
  exact ⟨b1, b2, b3, ((k1.mono fun k _ e => by omega).trans (k2.mono fun k _ e => by omega)).trans (k3.mono fun k _ e => by omega)⟩
theorem SpX.lull (h : SpX s w A pre W) (hL : Lull B W W') (hB : w.heap.size ≤ B) : SpX s w A pre W' := by
  obtain ⟨q, x, e, h1, h2, h3, h4⟩ := h.ex
  exact ⟨⟨q, x, e, h1, h2, BoxN.lull h3 hL, BoxN.lull h4 hL⟩, hL.cell h.b1, hL.below h.b hB (Nat.le_refl _), Nat.le_trans h.sz hL.size⟩
theorem SpX.keeps {b : Nat} (h : SpX s w A pre W) (hk : Keeps (fun k => k = b) W W') (h1 : w.heap.size + 1 + 1 + 1 < b) (h2 : b < A) : SpX s w A pre W' := by
  obtain ⟨q, x, e, g1, g2, g3, g4⟩ := h.ex
  exact ⟨⟨q, x, e, g1, g2, g3.keeps hk (by omega), g4.keeps hk (by omega)⟩, (World.cell?_of_block (w := W) (hk.block _ (World.block_lt_of_cell? W _ h.b1) (by show ¬ w.heap.size + 1 = b; omega))).trans h.b1, below_keeps h.b hk (fun k e => by omega), Nat.le_trans h.sz hk.size⟩
end
def SplitP (s : List UInt8) (w : World) (e : Ending) (w' : World) : Prop := ∃ v, e = .returned (.tuple #[v, .int .i64 ((splitL s).2.1 : Nat), .int .i64 (splitL s).2.2]) ∧ Own w' w.heap.size 1 v (splitL s).1.length ((splitL s).1.flatMap strC) ∧ ((splitL s).1 = [] → v = .slice none 0 0) ∧ Below w.heap.size w w'
set_option maxHeartbeats 1600000 in
theorem split_any (s : List UInt8) (w : World) (hs : s.length ≤ 30000) : Calls Tryz.prog 8 #[.string (B s)] w (SplitP s w) := by
  obtain ⟨i1, hi1, hz10, hz11, hz12⟩ := info_parts info_str
  have HWA := Lib.hid fun w => words_any s w
  have HCK := Lib.hid fun (x : Nat × Nat) (hx : x ∈ wordsL s) w => check_any s x.1 x.2 w hs (wordsL_in x hx).1 (wordsL_in x hx).2
  have hwl : (wordsL s).length ≤ s.length + 1 := wordsF_len _ _
  refine (callsIn_wide (n := 9)).1 ?_; refine callsIn_of_wp_marks Tryz.func8 rfl trivial ?_ rfl; simp only [Tryz.ntmps8, List.size_toArray, List.length_cons, List.length_nil, Nat.reduceAdd, Nat.reduceSub, Array.replicate_succ, Array.replicate_zero, List.push_toArray, List.append_toArray, List.nil_append, List.cons_append]
  refine wpIn_wide.2 ?_
  go_wp2_with (go_at_call 17; refine (HWA.out _).mono ?_; rintro e w2 ⟨rfl, rfl⟩)
  obtain ⟨w3, hw3⟩ : ∃ w3, w3 = ((((w.alloc (.cells #[.string (B s)] 9)).alloc (.cells #[.slice none 0 0] 24)).alloc (.cells #[.int .i64 0] 3)).alloc (.cells #[.int .i64 0] 27)).alloc (.cells #[.string (B s)] 9) := ⟨_, rfl⟩
  have hsz3 : w3.heap.size = w.heap.size + 1 + 1 + 1 + 1 + 1 := by rw [hw3]; simp
  have hGi : Hid (GivesW Tryz.prog 32 #[.pointer (some ⟨w.heap.size + 1 + 1 + 1 + 1, 0, none⟩)] encW (fun k => k = w.heap.size + 1 + 1 + 1 + 1) (w.heap.size + 1 + 1 + 1 + 1) (wordsL s) w3) :=
    Lib.hid (words_gives s (by omega) _ w3 (by rw [hw3]; simp [go_sem]))
  have HI0 : Hid (SpI s w w3.heap.size [] (.slice none 0 0) w3) := by
    refine Lib.hid ⟨⟨by omega, by rw [hw3]; go_simp, by rw [hw3]; simp [go_sem], Own.nil _ _ _, by simp [Value.ownBlock]⟩, fun _ => rfl, ?_, ?_, ?_, by simp, ?_, Nat.le_refl _⟩
    · rw [hw3]; exact box_at w [.string (B s)] _ _ rfl (below_alloc (below_alloc (below_alloc (below_alloc (Below.refl _ _) _) _) _) _)
    · rw [hw3]; exact box_at _ [.int .i64 0] _ _ (by simp) (below_alloc (below_alloc (Below.refl _ _) _) _)
    · rw [hw3]; exact box_at _ [.int .i64 0] _ _ (by simp) (below_alloc (Below.refl _ _) _)
    · rw [hw3]; exact below_alloc (below_alloc (below_alloc (below_alloc (below_alloc (Below.refl _ _) _) _) _) _) _
  rw [← hw3]
  clear hw3
  refine (wpIn_wide (n := 9)).1 ?_
  refine wpIn_iterW2 (n := 9) 12 13 5 6 (fun x : Nat × Nat => .int .i64 (x.1 : Nat)) (fun x => .int .i64 (x.2 : Nat)) (by omega) rfl (enters_of Tryz.func32 (by kernel_rfl) rfl) hGi.out (by omega) (fun k hk => by omega)
    (fun pre W => ∃ v, SpI s w w3.heap.size pre v W ∧ ∀ k, v.ownBlock = some k → w3.heap.size ≤ k) (fun c pre W => c = .ret ∧ SpX s w w3.heap.size pre W)
    (fun s W W' hL ⟨v, h, h2⟩ => ⟨v, h.lull hL (by omega), h2⟩) (fun c s W W' hL ⟨e, h⟩ => ⟨e, h.lull hL (by omega)⟩)
    (fun s W W' hk ⟨v, h, h2⟩ => ⟨v, h.keeps hk (by omega) (by omega) (fun k e => by have := h2 k e; omega), h2⟩) (fun c s W W' hk ⟨e, h⟩ => ⟨e, h.keeps hk (by omega) (by omega)⟩)
    ⟨_, HI0.out, fun k e => by cases e⟩ ?assign ?body ?done ?stop
  case assign =>
    intro l x W K hK
    gi_wp2
    exact hK
  case body =>
    rintro l pre ⟨a, e⟩ W hs1 ⟨v, g, gv⟩ hp
    have hx : (a, e) ∈ wordsL s := by
      obtain ⟨t, ht⟩ := hp
      rw [← ht]; simp
    have HC := Lib.hid (HCK.out (a, e) hx)
    obtain ⟨hx1, hx2⟩ := wordsL_in (a, e) hx
    have HVA := Lib.hid fun w => value_any ((s.take e).drop a) w (by rw [List.length_drop, List.length_take]; omega)
    have hpl : pre.length ≤ 30001 := by
      have := hp.length_le
      rw [List.length_append, List.length_singleton] at this
      omega
    have s0 := g.bs.c 0 _ rfl
    have o0 := g.o.c
    have G := Lib.hid g
    have GV := Lib.hid gv
    dsimp only at HC hx1 hx2
    have p0 : (0 : Int) ≤ (a : Int) := by omega
    have p1 : (a : Int) ≤ (e : Int) := by omega
    have p2 : (e : Int) ≤ (s.length : Int) := by omega
    clear g gv hp hx
    by_cases hk : chkN s a e = 0
    · rw [hk] at HC
      have HK := Lib.hid hk
      clear hk
      obtain ⟨vv, hvv⟩ : ∃ vv, valueL ((s.take e).drop a) = vv := ⟨_, rfl⟩
      have HVT := Lib.hid (show valT s (a, e) = vv.1 by unfold valT subT; rw [hvv])
      rw [hvv] at HVA
      clear hvv
      obtain ⟨tv, vb⟩ := vv
      dsimp only at HVA HVT
      gi_wp2_with (first
        | (with_reducible (show CallsIn _ _ _ 18 _ _ _); refine (CallsIn.inRound _ (callsIn_wide.2 (HC.out _))).mono ?_; rintro e4 w4 ⟨rfl, hb4⟩; have G4 := Lib.hid (G.out.below hb4); have HB4 := Lib.hid hb4; have s4 := G4.out.bs.c 0 _ rfl; have o4 := G4.out.o.c; clear hb4)
        | (with_reducible (show CallsIn _ _ _ 19 _ _ _); refine (CallsIn.inRound _ (callsIn_wide.2 (HVA.out _))).mono ?_; rintro e5 w5 ⟨rfl, hb5⟩; have G5 := Lib.hid (G4.out.below hb5); have HB5 := Lib.hid (below_then HB4.out hb5); have o5 := G5.out.o.c; have f5 := G5.out.o.f; have hlt5 := G5.out.o.lt; have sz5 := G5.out.sz; haveI : Old w5 (w.heap.size + 1) := ⟨hlt5⟩; clear hb5)
        | ((gi_at_builtin; refine wpListIn_append_src rfl (.tmp 30) (.tmp 32) _ rfl w3.heap.size 9 i1 _ 1 16 Tryz.underlying24 hi1 hz10 hz11 hz12 rfl (by decide) _ pre.length ((pre.map (valT s)).flatMap strC) rfl (G5.out.o.own.below (below_alloc (Below.refl _ _) _)) _ 1 [.string (B tv)] rfl rfl (Src.one _ _ _ _) (by simp [Value.oneCell']) (by unfold maxLen; omega) (by omega) (by first | (simp; done) | omega | (simp; omega)) ?_; intro v1 w1 hown1 hg1 hat1 hty1; have HTY1 := Lib.hid hty1; clear hty1); obtain ⟨g1, o1, c1, rfl, q1, q2, q3, q4⟩ := hown1.form; obtain ⟨r1, r2, r3, r4, r5, r6⟩ := G5.out.o.round2 (A := w3.heap.size) (G := fun k => k = w.heap.size + 1 + 1 + 1 + 1) (by omega) G5.out.z (by omega) (fun k hk => by have := G5.out.sz; omega) hown1 hg1 hat1; have R := Lib.hid (And.intro r1 (And.intro r2 (And.intro r3 r4))); have Q := Lib.hid q1; clear hown1 hg1 hat1 r1 r2 r3 r4 q1))
      obtain ⟨r1, r2, r3, r4⟩ := R.out
      refine ⟨(KeepsFrom.of_keeps (F := fun _ => False) (Keeps.of_below HB5.out) (fun _ h => h.elim)).trans r1, fun k hk => (r2 k hk).trans ((KeepG.of_below (G := fun k => k = w.heap.size + 1 + 1 + 1 + 1) HB5.out (fun k hk => by omega)) k hk), .slice (some ⟨g1, o1, none⟩) (pre.length + 1) c1, ⟨?_, fun h => by simp at h, G5.out.bs.keeps r4 (by omega), G5.out.b2.keeps r4 (by omega), G5.out.b3.keeps r4 (by omega), fun y hy => ?_, below_keeps G5.out.b r4 (fun k e => by omega), Nat.le_trans G5.out.sz r4.size⟩, fun k e => ?_⟩
      · rw [List.length_append, List.length_singleton, List.map_append, List.map_singleton, HVT.out, List.flatMap_append, List.flatMap_singleton]
        exact r3
      · rcases List.mem_append.1 hy with hy | hy
        · exact G5.out.ok y hy
        · rw [List.mem_singleton] at hy
          subst hy
          exact HK.out
      · cases e
        exact Q.out
    · have hk2 : (chkN s a e == 0) = false := by rw [beq_eq_false_iff_ne]; exact hk
      have hk3 : (chkN s a e != 0) = true := by rw [bne, hk2]; rfl
      have HK := Lib.hid hk
      obtain ⟨z, hz⟩ : ∃ z, chkN s a e = z := ⟨_, rfl⟩
      rw [hz] at HC hk2 hk3
      have HZ := Lib.hid hz
      clear hk hz
      gi_wp2_with (first
        | (with_reducible (show CallsIn _ _ _ 18 _ _ _); refine (CallsIn.inRound _ (callsIn_wide.2 (HC.out _))).mono ?_; rintro e4 w4 ⟨rfl, hb4⟩; have G4 := Lib.hid (G.out.below hb4); have HB4 := Lib.hid hb4; have s4 := G4.out.bs.c 0 _ rfl; have o4 := G4.out.o.c; have f4 := G4.out.o.f; have d2 := G4.out.b2.c 0 _ rfl; have f2 := G4.out.b2.f 0; have d3 := G4.out.b3.c 0 _ rfl; have f3 := G4.out.b3.f 0; haveI : Old w4 (w.heap.size + 1) := ⟨G4.out.o.lt⟩; haveI : Old w4 (w.heap.size + 1 + 1) := ⟨G4.out.b2.lt⟩; haveI : Old w4 (w.heap.size + 1 + 1 + 1) := ⟨G4.out.b3.lt⟩; clear hb4))
      obtain ⟨t1, t2, t3, t4⟩ := sp_stop G4.out (.slice none 0 0) a z
      refine ⟨?_, rfl, ⟨⟨pre, (a, e), rfl, G4.out.ok, by rw [HZ.out]; exact fun h => by rw [h] at hk2; simp at hk2, t2, by rw [HZ.out]; exact t3⟩, t1, below_keeps G4.out.b t4 (fun k e => by omega), Nat.le_trans G4.out.sz t4.size⟩⟩
      exact (KeepsFrom.of_keeps (F := fun _ => False) (Keeps.of_below HB4.out) (fun _ h => h.elim)).trans (KeepsFrom.of_keeps t4 (fun k hF _ hA => by omega))
  case done =>
    rintro D W hD ⟨v, g, gv⟩ hK
    have hspl : splitL s = ((wordsL s).map (valT s), 0, 0) := splitW_ok g.ok []
    have hnil : (wordsL s).map (valT s) = [] → v = .slice none 0 0 := fun e => g.z (by rw [List.map_eq_nil_iff] at e; rw [e]; rfl)
    have hvl := g.o.own.lt
    obtain ⟨A2, c2, rfl, -⟩ := g.o.own.form0
    have o0 := g.o.c
    have f0 := g.o.f
    have d2 := g.b2.c 0 _ rfl
    have f2 := g.b2.f 0
    have d3 := g.b3.c 0 _ rfl
    have f3 := g.b3.f 0
    haveI : Old W (w.heap.size + 1) := ⟨g.o.lt⟩
    haveI : Old W (w.heap.size + 1 + 1) := ⟨g.b2.lt⟩
    haveI : Old W (w.heap.size + 1 + 1 + 1) := ⟨g.b3.lt⟩
    have G := Lib.hid g
    have GV := Lib.hid gv
    have HN := Lib.hid hnil
    have HS := Lib.hid hspl
    clear g gv hnil hspl
    gi_wp2
    go_wp2
    obtain ⟨t1, t2, t3, t4⟩ := sp_stop G.out (.slice A2 (wordsL s).length c2) 0 0
    have ho := G.out.o.own.keeps t4 (fun k e _ hF => by have := GV.out k e; omega)
    have hB2 := below_keeps G.out.b t4 (fun k hk => by omega)
    have hK' := (t4.block D (Array.getElem?_eq_some_iff.1 hK).1 (by omega)).trans hK
    generalize World.setCell (World.setCell (World.setCell W _ _) _ _) _ _ = W2 at *
    have hL : Lull w3.heap.size W2 (W2.putObj D (.deferred none)) := Lull.of_grown (grownBy_putObj' _ D _) (fun r e => by cases e; exact ⟨hD, _, hK', rfl⟩)
    have z1 := hL.cell t1
    have z2 := hL.cell (t2.c 0 _ rfl)
    have z3 := hL.cell (t3.c 0 _ rfl)
    refine ⟨by simp, .inl ⟨_, _, rfl, run_takeDeferred hK', ?_⟩⟩
    refine ⟨.tuple #[.slice A2 (wordsL s).length c2, .int .i64 0, .int .i64 0], by simp [results, Tryz.results8, go_sem, z1, z2, z3], .slice A2 (wordsL s).length c2, ?_, ?_, ?_, hL.below hB2 (by omega) (Nat.le_refl _)⟩
    · rw [HS.out]; rfl
    · rw [HS.out, List.length_map]
      exact (ho.lull hL).mono (by omega)
    · rw [HS.out]; exact HN.out
  case stop =>
    rintro D c pre W hD hpre ⟨rfl, hx⟩ hK
    obtain ⟨q, x, rfl, h1, h2, h3, h4⟩ := hx.ex
    have hspl : splitL s = ([], x.1, chkN s x.1 x.2) := splitW_bad hpre h1 h2 []
    have hL : Lull w3.heap.size W (W.putObj D (.deferred none)) := Lull.of_grown (grownBy_putObj' _ D _) (fun r e => by cases e; exact ⟨hD, _, hK, rfl⟩)
    have z1 := hL.cell hx.b1
    have z2 := hL.cell (h3.c 0 _ rfl)
    have z3 := hL.cell (h4.c 0 _ rfl)
    have hB2 := hL.below hx.b (by omega) (Nat.le_refl _)
    gi_wp2
    refine ⟨by simp, .inl ⟨_, _, rfl, run_takeDeferred hK, ?_⟩⟩
    refine ⟨.tuple #[.slice none 0 0, .int .i64 (x.1 : Nat), .int .i64 (chkN s x.1 x.2)], by simp [results, Tryz.results8, go_sem, z1, z2, z3], .slice none 0 0, ?_, ?_, ?_, hB2⟩
    · rw [hspl]
    · rw [hspl]; exact Own.nil _ _ _
    · rw [hspl]; exact fun _ => rfl
end Go.Proofs.YtadaeecokkokjaaGreat.Quo
