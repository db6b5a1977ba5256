/-
  The walks of layer 20 (spec), on: Good, May, Read. Conditions: lines of at most 30000 bytes.
-/
import Derived.Test.YtadaeecokkokjaaGreatSpecA
import Derived.Test.YtadaeecokkokjaaGreatClass2
import Derived.Test.YtadaeecokkokjaaGreatSpecC
set_option linter.unusedSimpArgs false
set_option linter.unusedVariables false
namespace Go.Proofs.YtadaeecokkokjaaGreat.Spc
open Go.ChangeShapes Go.WideShapes Go.Deep Go.RowKit Mc Pa
set_option maxRecDepth 100000
/-- Actions are known, and rise. -/
def risesB (last : Int) : List Int → Bool
  | [] => true
  | a :: r => if a ≤ last then false else if 7 < a then false else risesB a r
def longB (t : List UInt8) : Bool := decide (1000 < t.length)
def goodB (x : Sp) : Bool := risesB 0 x.a && decide (x.w.length ≤ 1000) && !x.w.any longB && ![x.g, x.x, x.p, x.s].any longB
def lastOf (z : Int) (l : List Int) : Int := l.getLast?.getD z
theorem rises_take (l : List Int) (z : Int) (k : Nat) (h : k < l.length) : risesB z (l.take (k + 1)) = (risesB z (l.take k) && !(decide (l[k] ≤ lastOf z (l.take k))) && !(decide (7 < l[k]))) := by
  induction l generalizing z k with
  | nil => simp at h
  | cons a r ih =>
    cases k with
    | zero =>
      simp only [List.take_succ_cons, List.take_zero, risesB, lastOf, List.getElem_cons_zero, List.getLast?_nil, Option.getD_none]
      by_cases h1 : a ≤ z <;> by_cases h2 : 7 < a <;> simp [h1, h2]
    | succ k =>
      simp only [List.length_cons] at h
      rw [List.take_succ_cons, risesB, ih a k (by omega), List.take_succ_cons, risesB]
      have e : lastOf z (a :: r.take k) = lastOf a (r.take k) := by
        unfold lastOf
        cases hr : r.take k with
        | nil => rfl
        | cons b t => rw [List.getLast?_cons_cons, List.getLast?_eq_some_getLast (List.cons_ne_nil b t)]; rfl
      rw [e, List.getElem_cons_succ]
      by_cases h1 : a ≤ z
      · simp [h1]
      · by_cases h2 : 7 < a
        · simp [h1, h2]
        · simp [h1, h2]
theorem rises_no (l : List Int) (z : Int) (k : Nat) (h : risesB z (l.take k) = false) : risesB z l = false := by
  induction l generalizing z k with
  | nil => rw [List.take_nil] at h; exact h
  | cons a r ih =>
    cases k with
    | zero => cases h
    | succ k =>
      rw [List.take_succ_cons, risesB] at h
      rw [risesB]
      by_cases h1 : a ≤ z
      · rw [if_pos h1]
      · rw [if_neg h1] at h ⊢
        by_cases h2 : 7 < a
        · rw [if_pos h2]
        · rw [if_neg h2] at h ⊢
          exact ih a k h
theorem last_snoc (z : Int) (l : List Int) (k : Nat) (h : k < l.length) : lastOf z (l.take (k + 1)) = l[k] := by
  unfold lastOf
  rw [List.take_succ_eq_append_getElem h, List.getLast?_append]
  rfl
theorem rises_any (l : List Int) (v : Value) (w : World) (h : Sl w numC 1 v l) (hl : l.length ≤ 1073741824) : Calls Tryz.prog 22 #[v] w fun e w' => e = .returned (.bool (risesB 0 l)) ∧ w = w' := by
  obtain ⟨A, c, rfl, hc1, hc2, hn, hA⟩ := h
  have HA := Lib.hid hA
  clear hA hn
  go_enter Tryz.func22, Tryz.ntmps22
  go_wp2
  go_loopw [3, 8] (fun v3 v8 wr => ∃ k : Nat, k ≤ l.length ∧ v8 = .int .i64 k ∧ v3 = .int .i64 (lastOf 0 (l.take k)) ∧ Hid (risesB 0 (l.take k) = true) ∧ w = wr) (fun _ i _ => l.length - (intOf i).toNat)
  case atStart => exact ⟨0, by omega, rfl, rfl, Lib.hid rfl, rfl⟩
  case round =>
    obtain ⟨k, hk, rfl, rfl, HR, rfl⟩ := hrel
    by_cases hlt : k < l.length
    · have k0 : (0 : Int) ≤ (k : Int) := by omega
      have k1 : (k : Int) < (l.length : Int) := by omega
      obtain ⟨b, off, rfl, hb, hcl⟩ := HA.out (by omega)
      have hc : w.cell? ⟨b, off + k, none⟩ = some (.int .i64 l[k]) := by
        have := hcl k _ (List.getElem?_eq_getElem hlt) 0 _ rfl
        simpa using this
      have HT := Lib.hid (rises_take l 0 k hlt)
      rw [HR.out] at HT
      have HL := Lib.hid (last_snoc 0 l k hlt)
      clear hcl
      by_cases h1 : l[k] ≤ lastOf 0 (l.take k)
      · have HN := Lib.hid (rises_no l 0 (k + 1) (by rw [HT.out, decide_eq_true h1]; rfl))
        have d1 := yes h1
        generalize lastOf 0 (l.take k) = z at *
        generalize l[k] = y at *
        go_wp2
        go_ret
        exact ⟨by rw [HN.out]; rfl, rfl⟩
      · by_cases h2 : 7 < l[k]
        · have HN := Lib.hid (rises_no l 0 (k + 1) (by rw [HT.out, decide_eq_true h2]; simp))
          have d1 := no h1
          have d2 := yes h2
          generalize lastOf 0 (l.take k) = z at *
          generalize l[k] = y at *
          go_wp2
          go_ret
          exact ⟨by rw [HN.out]; rfl, rfl⟩
        · have HN := Lib.hid (show risesB 0 (l.take (k + 1)) = true by rw [HT.out, decide_eq_false h1, decide_eq_false h2]; rfl)
          have d1 := no h1
          have d2 := no h2
          generalize lastOf 0 (l.take k) = z at *
          generalize l[k] = y at *
          go_wp2
          exact ⟨⟨k + 1, by omega, by go_num, by rw [HL.out], HN, trivial⟩, by simp [intOf]; omega⟩
    · have hk' : k = l.length := by omega
      have hr := HR.out
      rw [hk', List.take_length] at hr
      have HR2 := Lib.hid hr
      have k1 : ¬ (k : Int) < (l.length : Int) := by omega
      clear hr
      go_wp2
      go_ret
      exact ⟨by rw [HR2.out]; rfl, rfl⟩
theorem long_any (t : List UInt8) (w : World) : Calls Tryz.prog 23 #[.string (B t)] w fun e w' => e = .returned (.bool (longB t)) ∧ w = w' := by
  go_enter Tryz.func23, Tryz.ntmps23
  go_wp2
  go_ret
  exact ⟨congrArg Ending.returned (congrArg Value.bool (by unfold longB; rw [Bool.eq_iff_iff]; simp; omega)), rfl⟩
end Go.Proofs.YtadaeecokkokjaaGreat.Spc
namespace Go.Proofs.YtadaeecokkokjaaGreat.Spc
open Go.ChangeShapes Go.WideShapes Go.Deep Go.RowKit Mc Pa Quo Cls
set_option maxRecDepth 100000
theorem idx_any (ts : List (List UInt8)) (v : Value) (w : World) (h : Sl w strC 1 v ts) (hl : ts.length ≤ 1073741824) : Calls Tryz.prog 44 #[v, .func (.func 23) #[] #[]] w fun e w' => (∃ z : Int, e = .returned (.int .i64 z) ∧ decide (0 ≤ z) = ts.any longB) ∧ w = w' := by
  obtain ⟨A, c, rfl, hc1, hc2, hn, hA⟩ := h
  have HA := Lib.hid hA
  have HL := Lib.hid fun t w => long_any t w
  clear hA hn
  go_enter Tryz.func44, Tryz.ntmps44
  go_wp2
  go_loopw [8] (fun v8 wr => ∃ k : Nat, k ≤ ts.length ∧ v8 = .int .i64 k ∧ Hid ((ts.take k).any longB = false) ∧ w = wr) (fun i _ => ts.length - (intOf i).toNat)
  case atStart => exact ⟨0, by omega, rfl, Lib.hid rfl, rfl⟩
  case round =>
    obtain ⟨k, hk, rfl, HR, rfl⟩ := hrel
    have k0 : (0 : Int) ≤ (k : Int) := by omega
    by_cases hlt : k < ts.length
    · have k1 : (k : Int) < (ts.length : Int) := by omega
      obtain ⟨b, off, rfl, hb, hcl⟩ := HA.out (by omega)
      obtain ⟨t, ht⟩ : ∃ t, ts[k]? = some t := ⟨_, List.getElem?_eq_getElem hlt⟩
      have hc : w.cell? ⟨b, off + k, none⟩ = some (.string (B t)) := by
        have := hcl k _ ht 0 _ rfl
        simpa using this
      have HT := Lib.hid (show (ts.take (k + 1)).any longB = ((ts.take k).any longB || longB t) by rw [List.take_add_one, ht]; simp [Bool.or_comm])
      have HLT := Lib.hid (HL.out t w)
      rw [HR.out, Bool.false_or] at HT
      clear hcl ht
      cases hlg : longB t with
      | true =>
        have HN := Lib.hid (show ts.any longB = true by
          rw [← List.take_append_drop (k + 1) ts, List.any_append, HT.out, hlg]; rfl)
        rw [hlg] at HLT
        clear hlg
        go_wp2_with (go_at_call 23; refine (HLT.out).mono ?_; rintro e w' ⟨rfl, rfl⟩)
        go_ret
        exact ⟨⟨_, rfl, by rw [HN.out]; simp⟩, rfl⟩
      | false =>
        rw [hlg] at HLT HT
        clear hlg
        go_wp2_with (go_at_call 23; refine (HLT.out).mono ?_; rintro e w' ⟨rfl, rfl⟩)
        exact ⟨⟨k + 1, by omega, by go_num, HT, trivial⟩, by simp [intOf]; omega⟩
    · have hr := HR.out
      rw [show k = ts.length by omega, List.take_length] at hr
      have HR2 := Lib.hid hr
      have k1 : ¬ (k : Int) < (ts.length : Int) := by omega
      clear hr
      go_wp2
      go_ret
      exact ⟨⟨_, rfl, by rw [HR2.out]; rfl⟩, rfl⟩
theorem cf_any (ts : List (List UInt8)) (v : Value) (w : World) (h : Sl w strC 1 v ts) (hl : ts.length ≤ 1073741824) : Calls Tryz.prog 24 #[v, .func (.func 23) #[] #[]] w fun e w' => e = .returned (.bool (ts.any longB)) ∧ w = w' := by
  have HI := Lib.hid (idx_any ts v w h hl)
  obtain ⟨A, c, rfl, _⟩ := h
  go_enter Tryz.func24, Tryz.ntmps24
  go_wp2_with (go_at_call 44; refine HI.out.mono ?_; rintro e w' ⟨⟨z, rfl, hz⟩, rfl⟩; have HZ := Lib.hid hz; clear hz)
  go_ret
  exact ⟨by rw [← HZ.out]; rfl, rfl⟩
/-- A spec as a value. -/
def spV (va vw : Value) (x : Sp) : Value := .agg #[va, vw, .string (B x.g), .string (B x.x), .string (B x.p), .string (B x.s)]
@[go_sem] theorem spV_eq (va vw : Value) (x : Sp) : spV va vw x = .agg #[va, vw, .string (B x.g), .string (B x.x), .string (B x.p), .string (B x.s)] := rfl
theorem sl_four (w : World) (n : Nat) (a b c d : List UInt8) (hn : n = w.heap.size) : Sl (w.alloc (.cells #[.string (B a), .string (B b), .string (B c), .string (B d)] 9)) strC 1 (.slice (some ⟨n, 0, none⟩) 4 4) [a, b, c, d] := by
  subst hn
  have hb := BoxN.new w [.string (B a), .string (B b), .string (B c), .string (B d)] 9
  refine ⟨_, _, rfl, by simp, by simp, fun h => by simp at h, fun _ => ⟨_, _, rfl, by simp, fun k y hk j u hj => ?_⟩⟩
  have hj0 : j = 0 ∧ u = .string (B y) := by
    cases j with
    | zero => simp [strC] at hj; exact ⟨rfl, hj.symm⟩
    | succ j => simp [strC] at hj
  obtain ⟨rfl, rfl⟩ := hj0
  have hc := hb.c k (.string (B y)) (by
    have hk4 : k = 0 ∨ k = 1 ∨ k = 2 ∨ k = 3 := by
      have := (List.getElem?_eq_some_iff.1 hk).1
      simp at this
      omega
    rcases hk4 with rfl | rfl | rfl | rfl
    all_goals
      simp at hk
      subst hk
      rfl)
  simpa using hc
set_option maxHeartbeats 1000000 in
theorem good_any (va vw : Value) (x : Sp) (w : World) (ha : Sl w numC 1 va x.a) (hw : Sl w strC 1 vw x.w) (hla : x.a.length ≤ 1073741824) (hlw : x.w.length ≤ 1073741824) :
    Calls Tryz.prog 11 #[spV va vw x] w fun e w' => e = .returned (.bool (goodB x)) ∧ Below w.heap.size w w' := by
  have HA := Lib.hid fun W h => rises_any x.a va W (ha.below h) hla
  have HW := Lib.hid fun W h => cf_any x.w vw W (hw.below h) hlw
  have HG := Lib.hid fun v W h => cf_any [x.g, x.x, x.p, x.s] v W h (by simp)
  have HQ := Lib.hid (show goodB x = (risesB 0 x.a && decide (x.w.length ≤ 1000) && !x.w.any longB && ![x.g, x.x, x.p, x.s].any longB) from rfl)
  obtain ⟨Aa, ca, rfl, _⟩ := ha
  obtain ⟨Aw, cw, rfl, _⟩ := hw
  go_enter Tryz.func11, Tryz.ntmps11
  cases hr : risesB 0 x.a with
  | false =>
    rw [hr] at HA HQ
    clear hr
    go_wp2_with (go_at_call 22; refine (HA.out _ (by (repeat (first | exact Below.refl _ _ | assumption | with_reducible refine below_alloc ?_ _ | with_reducible refine below_grow ?_ _ | with_reducible refine below_drewN ?_ _ | with_reducible refine below_drew ?_ | with_reducible refine below_setCell ?_ (by first | (dsimp only; omega) | (simp; done) | (simp; omega)) _)))).mono ?_; rintro e w' ⟨rfl, rfl⟩)
    go_ret
    exact ⟨by rw [HQ.out]; rfl, by (repeat (first | exact Below.refl _ _ | assumption | with_reducible refine below_alloc ?_ _ | with_reducible refine below_grow ?_ _ | with_reducible refine below_drewN ?_ _ | with_reducible refine below_drew ?_ | with_reducible refine below_setCell ?_ (by first | (dsimp only; omega) | (simp; done) | (simp; omega)) _))⟩
  | true =>
    rw [hr] at HA HQ
    clear hr
    by_cases hk : x.w.length ≤ 1000
    · have n1 : ¬ (1000 : Int) < (x.w.length : Int) := by omega
      rw [decide_eq_true hk] at HQ
      clear hk
      cases hb : x.w.any longB with
      | true =>
        rw [hb] at HW HQ
        clear hb
        go_wp2_with (first
          | (go_at_call 22; refine (HA.out _ (by (repeat (first | exact Below.refl _ _ | assumption | with_reducible refine below_alloc ?_ _ | with_reducible refine below_grow ?_ _ | with_reducible refine below_drewN ?_ _ | with_reducible refine below_drew ?_ | with_reducible refine below_setCell ?_ (by first | (dsimp only; omega) | (simp; done) | (simp; omega)) _)))).mono ?_; rintro e w' ⟨rfl, rfl⟩)
          | (go_at_call 24; refine (HW.out _ (by (repeat (first | exact Below.refl _ _ | assumption | with_reducible refine below_alloc ?_ _ | with_reducible refine below_grow ?_ _ | with_reducible refine below_drewN ?_ _ | with_reducible refine below_drew ?_ | with_reducible refine below_setCell ?_ (by first | (dsimp only; omega) | (simp; done) | (simp; omega)) _)))).mono ?_; rintro e w' ⟨rfl, rfl⟩))
        go_ret
        exact ⟨by rw [HQ.out]; rfl, by (repeat (first | exact Below.refl _ _ | assumption | with_reducible refine below_alloc ?_ _ | with_reducible refine below_grow ?_ _ | with_reducible refine below_drewN ?_ _ | with_reducible refine below_drew ?_ | with_reducible refine below_setCell ?_ (by first | (dsimp only; omega) | (simp; done) | (simp; omega)) _))⟩
      | false =>
        rw [hb] at HW HQ
        clear hb
        obtain ⟨q, hq⟩ : ∃ q, [x.g, x.x, x.p, x.s].any longB = q := ⟨_, rfl⟩
        rw [hq] at HG HQ
        clear hq
        go_wp2_with (first
          | (go_at_call 22; refine (HA.out _ (by (repeat (first | exact Below.refl _ _ | assumption | with_reducible refine below_alloc ?_ _ | with_reducible refine below_grow ?_ _ | with_reducible refine below_drewN ?_ _ | with_reducible refine below_drew ?_ | with_reducible refine below_setCell ?_ (by first | (dsimp only; omega) | (simp; done) | (simp; omega)) _)))).mono ?_; rintro e w' ⟨rfl, rfl⟩)
          | (go_at_call 24; refine (HW.out _ (by (repeat (first | exact Below.refl _ _ | assumption | with_reducible refine below_alloc ?_ _ | with_reducible refine below_grow ?_ _ | with_reducible refine below_drewN ?_ _ | with_reducible refine below_drew ?_ | with_reducible refine below_setCell ?_ (by first | (dsimp only; omega) | (simp; done) | (simp; omega)) _)))).mono ?_; rintro e w' ⟨rfl, rfl⟩)
          | (go_at_call 24; refine (HG.out _ _ (sl_four _ _ _ _ _ _ (by simp))).mono ?_; rintro e w' ⟨rfl, rfl⟩))
        go_ret
        exact ⟨by rw [HQ.out]; cases q <;> rfl, by (repeat (first | exact Below.refl _ _ | assumption | with_reducible refine below_alloc ?_ _ | with_reducible refine below_grow ?_ _ | with_reducible refine below_drewN ?_ _ | with_reducible refine below_drew ?_ | with_reducible refine below_setCell ?_ (by first | (dsimp only; omega) | (simp; done) | (simp; omega)) _))⟩
    · have n1 : (1000 : Int) < (x.w.length : Int) := by omega
      rw [decide_eq_false hk] at HQ
      clear hk
      go_wp2_with (go_at_call 22; refine (HA.out _ (by (repeat (first | exact Below.refl _ _ | assumption | with_reducible refine below_alloc ?_ _ | with_reducible refine below_grow ?_ _ | with_reducible refine below_drewN ?_ _ | with_reducible refine below_drew ?_ | with_reducible refine below_setCell ?_ (by first | (dsimp only; omega) | (simp; done) | (simp; omega)) _)))).mono ?_; rintro e w' ⟨rfl, rfl⟩)
      go_ret
      exact ⟨by rw [HQ.out]; rfl, by (repeat (first | exact Below.refl _ _ | assumption | with_reducible refine below_alloc ?_ _ | with_reducible refine below_grow ?_ _ | with_reducible refine below_drewN ?_ _ | with_reducible refine below_drew ?_ | with_reducible refine below_setCell ?_ (by first | (dsimp only; omega) | (simp; done) | (simp; omega)) _))⟩
/-- Is a text a spec's name? -/
def spMay (n : List UInt8) : Bool := decide (n = [45, 68]) || decide (n = [45, 69]) || (mayB 4 n && decide (n.headD 45 ≠ 45))
end Go.Proofs.YtadaeecokkokjaaGreat.Spc
namespace Go.Proofs.YtadaeecokkokjaaGreat.Spc
open Go.ChangeShapes Go.WideShapes Go.Deep Go.RowKit Mc Pa Quo Cls
attribute [local go_sem] Oper.semAt_some
set_option maxRecDepth 100000
/-- What holds where the code ends, no panic. -/
def noPanic (Q : Exit → Act → World → Prop) : Exit → Act → World → Prop
  | .panic _, _, _ => False
  | .normal, a, w => Q .normal a w
  | .exit i, a, w => Q (.exit i) a w
  | .goto l, a, w => Q (.goto l) a w
  | .ret, a, w => Q .ret a w
  | .outgrown, a, w => Q .outgrown a w
@[go_sem] theorem noPanic_normal {Q : Exit → Act → World → Prop} {a : Act} {w : World} : noPanic Q .normal a w = Q .normal a w := rfl
theorem wp_noPanic {P : Program} {Q : Exit → Act → World → Prop} {c : Code} {a : Act} {w : World} (h : c.wp P (noPanic Q) a w) : c.wp P Q a w :=
  wp_mono h fun e a w h => by cases e <;> first | exact h | exact h.elim
theorem c45 (c : UInt8) : ((c.toNat : Int) != 45) = (false || false || true && decide (c ≠ 45)) := by
  by_cases h : c = 45
  · subst h; rfl
  · have h2 : (c.toNat : Int) ≠ 45 := fun e => h (UInt8.toNat_inj.1 (by have : c.toNat = 45 := by omega
                                                                        rw [this]; rfl))
    rw [decide_eq_true (by simpa using h)]
    simpa using h2
theorem mayB_nil : mayB 4 [] = false := by first | rfl | decide | (simp [mayB, wordB])
set_option maxHeartbeats 1000000 in
theorem spMay_any (n : List UInt8) (w : World) (hn : n.length ≤ 1073741824) : Calls Tryz.prog 12 #[.string (B n)] w fun e w' => e = .returned (.bool (spMay n)) ∧ w = w' := by
  have HM := Lib.hid (may_any 4 n w hn)
  have HQ := Lib.hid (show spMay n = (decide (n = [45, 68]) || decide (n = [45, 69]) || (mayB 4 n && decide (n.headD 45 ≠ 45))) from rfl)
  by_cases h1 : n = [45, 68]
  · have e1 : (n == [45, 68]) = true := by rw [h1]; rfl
    rw [decide_eq_true h1] at HQ
    clear h1
    go_enter Tryz.func12, Tryz.ntmps12
    go_wp2
    go_ret
    exact ⟨by rw [HQ.out]; rfl, rfl⟩
  by_cases h2 : n = [45, 69]
  · have e1 : (n == [45, 68]) = false := by simpa using h1
    have e2 : (n == [45, 69]) = true := by rw [h2]; rfl
    rw [decide_eq_false h1, decide_eq_true h2] at HQ
    clear h1 h2
    go_enter Tryz.func12, Tryz.ntmps12
    go_wp2
    go_ret
    exact ⟨by rw [HQ.out]; rfl, rfl⟩
  have e1 : (n == [45, 68]) = false := by simpa using h1
  have e2 : (n == [45, 69]) = false := by simpa using h2
  rw [decide_eq_false h1, decide_eq_false h2] at HQ
  clear h1 h2
  cases hm : mayB 4 n with
  | false =>
    rw [hm] at HM HQ
    clear hm
    go_enter Tryz.func12, Tryz.ntmps12
    go_wp2_with (go_at_call 25; refine (HM.out).mono ?_; rintro e w' ⟨rfl, rfl⟩)
    go_ret
    exact ⟨by rw [HQ.out]; rfl, rfl⟩
  | true =>
    cases n with
    | nil => rw [mayB_nil] at hm; cases hm
    | cons c r =>
      rw [hm] at HM HQ
      clear hm
      rw [List.headD_cons] at HQ
      go_enter Tryz.func12, Tryz.ntmps12
      go_wp2_with (go_at_call 25; refine (HM.out).mono ?_; rintro e w' ⟨rfl, rfl⟩)
      go_ret
      refine ⟨?_, rfl⟩
      rw [HQ.out]
      exact congrArg Ending.returned (congrArg Value.bool (c45 c))
def lastN (l : List (List UInt8)) : List UInt8 := l.getLast?.getD []
/-- What a line tells. -/
def readW (l : List (List UInt8)) (er : Int) : List UInt8 × Sp × Int :=
  if er ≠ 0 ∨ l.length < 2 ∨ l.length % 2 ≠ 0 ∨ l[0]? ≠ some cmpl then ([], sp0, 4)
  else if (takesL sp0 [] (pairsOf l)).1 ≠ 0 then ([], sp0, (takesL sp0 [] (pairsOf l)).1)
  else if goodB (takesL sp0 [] (pairsOf l)).2.1 = false then ([], sp0, 2) else if spMay (lastN l) = false then ([], sp0, 5) else (lastN l, (takesL sp0 [] (pairsOf l)).2.1, 0)
def readL (s : List UInt8) : List UInt8 × Sp × Int := readW (splitL s).1 (splitL s).2.2
/-- What Read leaves. -/
def ReadP (q : List UInt8 × Sp × Int) (w : World) (e : Ending) (w' : World) : Prop :=
  ∃ va vw, e = .returned (.tuple #[.string (B q.1), spV va vw q.2.1, .int .i64 q.2.2]) ∧ Own w' w.heap.size 1 va q.2.1.a.length (q.2.1.a.flatMap numC) ∧ Own w' w.heap.size 1 vw q.2.1.w.length (q.2.1.w.flatMap strC) ∧ Below w.heap.size w w'
theorem box_fill6 {w : World} {b : Nat} {u0 u1 u2 u3 u4 u5 : Value} (h : BoxN w b [u0, u1, u2, u3, u4, u5]) (z0 z1 z2 z3 z4 z5 : Value) :
    BoxN ((((((w.setCell ⟨b, 0, none⟩ z0).setCell ⟨b, 1, none⟩ z1).setCell ⟨b, 2, none⟩ z2).setCell ⟨b, 3, none⟩ z3).setCell ⟨b, 4, none⟩ z4).setCell ⟨b, 5, none⟩ z5) b [z0, z1, z2, z3, z4, z5] ∧
    Keeps (fun k => k = b) w ((((((w.setCell ⟨b, 0, none⟩ z0).setCell ⟨b, 1, none⟩ z1).setCell ⟨b, 2, none⟩ z2).setCell ⟨b, 3, none⟩ z3).setCell ⟨b, 4, none⟩ z4).setCell ⟨b, 5, none⟩ z5) := by
  have k0 (w : World) (n : Nat) (z : Value) : Keeps (fun k => k = b) w (w.setCell ⟨b, n, none⟩ z) := Keeps.setCell (F := fun k => k = b) w (a := ⟨b, n, none⟩) rfl _
  exact ⟨boxN_set (boxN_set (boxN_set (boxN_set (boxN_set (boxN_set h 0 (by simp) z0) 1 (by simp) z1) 2 (by simp) z2) 3 (by simp) z3) 4 (by simp) z4) 5 (by simp) z5,
    (((((k0 _ _ _).trans (k0 _ _ _)).trans (k0 _ _ _)).trans (k0 _ _ _)).trans (k0 _ _ _)).trans (k0 _ _ _)⟩
theorem box6 {w : World} {b : Nat} {u0 u1 u2 u3 u4 u5 : Value} (h : BoxN w b [u0, u1, u2, u3, u4, u5]) : (w.cell? ⟨b, 0, none⟩ = some u0 ∧ w.cell? ⟨b, 1, none⟩ = some u1 ∧ w.cell? ⟨b, 2, none⟩ = some u2 ∧ w.cell? ⟨b, 3, none⟩ = some u3 ∧ w.cell? ⟨b, 4, none⟩ = some u4 ∧ w.cell? ⟨b, 5, none⟩ = some u5) ∧
    (w.frozen? ⟨b, 0, none⟩ = false ∧ w.frozen? ⟨b, 1, none⟩ = false ∧ w.frozen? ⟨b, 2, none⟩ = false ∧ w.frozen? ⟨b, 3, none⟩ = false ∧ w.frozen? ⟨b, 4, none⟩ = false ∧ w.frozen? ⟨b, 5, none⟩ = false) :=
  ⟨⟨h.c 0 _ rfl, h.c 1 _ rfl, h.c 2 _ rfl, h.c 3 _ rfl, h.c 4 _ rfl, h.c 5 _ rfl⟩, h.f 0, h.f 1, h.f 2, h.f 3, h.f 4, h.f 5⟩
def sp0V : List Value := [.slice none 0 0, .slice none 0 0, .string (B []), .string (B []), .string (B []), .string (B [])]
theorem own_at {w : World} {b0 : Nat} {v : Value} {ts : List (List UInt8)} (h : Own w b0 1 v ts.length (ts.flatMap strC)) (hp : 0 < ts.length) : ∃ g off c, v = .slice (some ⟨g, off, none⟩) ts.length c ∧ b0 ≤ g ∧ g < w.heap.size ∧ ts.length ≤ c ∧ ∀ j t, ts[j]? = some t → w.cell? ⟨g, off + j, none⟩ = some (.string (B t)) := by
  obtain ⟨g, off, c, rfl, hg, hlt, hc, _⟩ := h.form' hp
  obtain ⟨A, c', e, hle, _, _, hcl⟩ := h.sl (fun x _ => rfl) rfl
  cases e
  refine ⟨g, off, c, rfl, hg, hlt, hle, fun j t hj => ?_⟩
  obtain ⟨b, off', e, _, hcl⟩ := hcl hp
  cases e
  have := hcl j t hj 0 _ rfl
  simpa using this
set_option maxHeartbeats 2000000 in
/-- Lines that are no spec's form. -/
theorem read_form (s : List UInt8) (w : World) (hs : s.length ≤ 30000) (l : List (List UInt8)) (pl : Nat) (er : Int) (hsl : splitL s = (l, pl, er)) (h : er ≠ 0 ∨ l.length < 2 ∨ l.length % 2 ≠ 0 ∨ l[0]? ≠ some cmpl) : Calls Tryz.prog 5 #[.string (B s)] w (ReadP ([], sp0, 4) w) := by
  have HSP := Lib.hid fun w => split_any s w hs
  unfold SplitP at HSP
  rw [hsl] at HSP
  dsimp only at HSP
  clear hsl
  by_cases h1 : er = 0
  case neg =>
    have n1 : (er == 0) = false := by simpa using h1
    have n2 : (er != 0) = true := by simpa using h1
    clear h1 h
    go_enter Tryz.func5, Tryz.ntmps5
    go_wp2
    go_step3
    go_wp2_with (go_at_call 8; refine (HSP.out _).mono ?_; rintro e w2 ⟨v2, rfl, ho2, hz2, hb2⟩; have HB2 := Lib.hid hb2; have HBX := Lib.hid ((BoxN.new w sp0V 26).below hb2); obtain ⟨⟨c0, c1, c2, c3, c4, c5⟩, f0, f1, f2, f3, f4, f5⟩ := box6 HBX.out; haveI : Old w2 w.heap.size := ⟨HBX.out.lt⟩; obtain ⟨A2, cc, rfl, -⟩ := ho2.form0; clear ho2 hz2 hb2)
    rw [Exit.noGoto_ret]
    obtain ⟨hbx, hk⟩ := box_fill6 HBX.out (.slice none 0 0) (.slice none 0 0) (.string (B [])) (.string (B [])) (.string (B [])) (.string (B []))
    obtain ⟨⟨d0, d1, d2, d3, d4, d5⟩, -⟩ := box6 hbx
    refine bodyPost_ret (v := .tuple #[.string (B []), spV (.slice none 0 0) (.slice none 0 0) sp0, .int .i64 4]) (by simp [results, Tryz.results5, go_sem, d0, d1, d2, d3, d4, d5, sp0]) rfl ?_
    exact ⟨_, _, rfl, Own.nil _ _ _, Own.nil _ _ _, below_keeps (below_then (below_alloc (Below.refl _ _) _) HB2.out) hk (fun k e => by omega)⟩
  case pos =>
  subst h1
  by_cases h2 : l.length < 2
  case pos =>
    have n1 : (l.length : Int) < 2 := by omega
    clear h2 h
    go_enter Tryz.func5, Tryz.ntmps5
    go_wp2
    go_step3
    go_wp2_with (go_at_call 8; refine (HSP.out _).mono ?_; rintro e w2 ⟨v2, rfl, ho2, hz2, hb2⟩; have HB2 := Lib.hid hb2; have HBX := Lib.hid ((BoxN.new w sp0V 26).below hb2); obtain ⟨⟨c0, c1, c2, c3, c4, c5⟩, f0, f1, f2, f3, f4, f5⟩ := box6 HBX.out; haveI : Old w2 w.heap.size := ⟨HBX.out.lt⟩; obtain ⟨A2, cc, rfl, -⟩ := ho2.form0; clear ho2 hz2 hb2)
    rw [Exit.noGoto_ret]
    obtain ⟨hbx, hk⟩ := box_fill6 HBX.out (.slice none 0 0) (.slice none 0 0) (.string (B [])) (.string (B [])) (.string (B [])) (.string (B []))
    obtain ⟨⟨d0, d1, d2, d3, d4, d5⟩, -⟩ := box6 hbx
    refine bodyPost_ret (v := .tuple #[.string (B []), spV (.slice none 0 0) (.slice none 0 0) sp0, .int .i64 4]) (by simp [results, Tryz.results5, go_sem, d0, d1, d2, d3, d4, d5, sp0]) rfl ?_
    exact ⟨_, _, rfl, Own.nil _ _ _, Own.nil _ _ _, below_keeps (below_then (below_alloc (Below.refl _ _) _) HB2.out) hk (fun k e => by omega)⟩
  by_cases h3 : l.length % 2 = 0
  case neg =>
    have n1 : ¬ (l.length : Int) < 2 := by omega
    have n2 : (l.length : Int).tmod 2 = 1 := by rw [Int.tmod_eq_emod_of_nonneg (by omega)]; omega
    clear h2 h3 h
    go_enter Tryz.func5, Tryz.ntmps5
    go_wp2
    go_step3
    go_wp2_with (go_at_call 8; refine (HSP.out _).mono ?_; rintro e w2 ⟨v2, rfl, ho2, hz2, hb2⟩; have HB2 := Lib.hid hb2; have HBX := Lib.hid ((BoxN.new w sp0V 26).below hb2); obtain ⟨⟨c0, c1, c2, c3, c4, c5⟩, f0, f1, f2, f3, f4, f5⟩ := box6 HBX.out; haveI : Old w2 w.heap.size := ⟨HBX.out.lt⟩; obtain ⟨A2, cc, rfl, -⟩ := ho2.form0; clear ho2 hz2 hb2)
    rw [Exit.noGoto_ret]
    obtain ⟨hbx, hk⟩ := box_fill6 HBX.out (.slice none 0 0) (.slice none 0 0) (.string (B [])) (.string (B [])) (.string (B [])) (.string (B []))
    obtain ⟨⟨d0, d1, d2, d3, d4, d5⟩, -⟩ := box6 hbx
    refine bodyPost_ret (v := .tuple #[.string (B []), spV (.slice none 0 0) (.slice none 0 0) sp0, .int .i64 4]) (by simp [results, Tryz.results5, go_sem, d0, d1, d2, d3, d4, d5, sp0]) rfl ?_
    exact ⟨_, _, rfl, Own.nil _ _ _, Own.nil _ _ _, below_keeps (below_then (below_alloc (Below.refl _ _) _) HB2.out) hk (fun k e => by omega)⟩
  have n0 : ¬ (l.length : Int) < 2 := by omega
  have n1 : (0 : Int) < (l.length : Int) := by omega
  have n2 : (l.length : Int).tmod 2 = 0 := by rw [Int.tmod_eq_emod_of_nonneg (by omega)]; omega
  have hp : 0 < l.length := by omega
  have h4 : l[0]? ≠ some cmpl := by
    rcases h with h | h | h | h
    · exact (h rfl).elim
    · exact (h2 h).elim
    · exact (h h3).elim
    · exact h
  obtain ⟨t0, ht0⟩ : ∃ t0, l[0]? = some t0 := ⟨_, List.getElem?_eq_getElem hp⟩
  rw [ht0] at h4
  have e1 : (t0 == [99, 111, 109, 112, 108, 101, 116, 101]) = false := by
    rw [beq_eq_false_iff_ne]; exact fun e => h4 (congrArg some e)
  have e2 : (t0 != [99, 111, 109, 112, 108, 101, 116, 101]) = true := by rw [bne, e1]; rfl
  clear h2 h3 h h4
  go_enter Tryz.func5, Tryz.ntmps5
  go_wp2
  go_step3
  go_wp2_with (go_at_call 8; refine (HSP.out _).mono ?_; rintro e w2 ⟨v2, rfl, ho2, hz2, hb2⟩; have HB2 := Lib.hid hb2; have HBX := Lib.hid ((BoxN.new w sp0V 26).below hb2); obtain ⟨⟨c0, c1, c2, c3, c4, c5⟩, f0, f1, f2, f3, f4, f5⟩ := box6 HBX.out; haveI : Old w2 w.heap.size := ⟨HBX.out.lt⟩; obtain ⟨g, off, cc, rfl, hg, hlt, hcc, hcl⟩ := own_at ho2 (by omega); haveI : Old w2 g := ⟨hlt⟩; have z0 := hcl 0 t0 ht0; rw [Nat.add_zero] at z0; clear ho2 hz2 hb2 hcl)
  rw [Exit.noGoto_ret]
  obtain ⟨hbx, hk⟩ := box_fill6 HBX.out (.slice none 0 0) (.slice none 0 0) (.string (B [])) (.string (B [])) (.string (B [])) (.string (B []))
  obtain ⟨⟨d0, d1, d2, d3, d4, d5⟩, -⟩ := box6 hbx
  refine bodyPost_ret (v := .tuple #[.string (B []), spV (.slice none 0 0) (.slice none 0 0) sp0, .int .i64 4]) (by simp [results, Tryz.results5, go_sem, d0, d1, d2, d3, d4, d5, sp0]) rfl ?_
  exact ⟨_, _, rfl, Own.nil _ _ _, Own.nil _ _ _, below_keeps (below_then (below_alloc (Below.refl _ _) _) HB2.out) hk (fun k e => by omega)⟩

/-- What holds at each round of Read's loop. -/
structure ReI (w : World) (A M g o : Nat) (u : Value) (pre : List (List UInt8 × List UInt8)) (va vw : Value) (W : World) : Prop where
  z : (takesL sp0 [] pre).1 = 0
  sp : SpAt W A w.heap.size va vw (takesL sp0 [] pre).2.1
  m : SeenAt W M (takesL sp0 [] pre).2.2
  bm : BoxN W (M + 1) [.map (some M)]
  bb : BoxN W (M + 1 + 1) [.int .i64 0]
  b : Below w.heap.size w W
  sz : A ≤ W.heap.size
  lc : W.cell? ⟨g, o, none⟩ = some u
/-- And where it ends early. -/
structure ReX (w : World) (A M g o : Nat) (u : Value) (pre : List (List UInt8 × List UInt8)) (W : World) : Prop where
  ne : (takesL sp0 [] pre).1 ≠ 0
  sp : ∃ u0 u1 u2 u3 u4 u5, BoxN W w.heap.size [u0, u1, u2, u3, u4, u5]
  bb : BoxN W (M + 1 + 1) [.int .i64 (takesL sp0 [] pre).1]
  b : Below w.heap.size w W
  sz : A ≤ W.heap.size
  lc : W.cell? ⟨g, o, none⟩ = some u
theorem Lull.lowb {B : Nat} {W W' : World} {cs : List Value} {b : Nat} (hL : Lull B W W') (h : BoxN W b cs) (hb : b < B) : BoxN W' b cs := h.block (hL.low b h.lt hb) hL.size
section
variable {w W W' : World} {A M g o : Nat} {u : Value} {pre : List (List UInt8 × List UInt8)} {va vw : Value}
theorem ReI.lull (h : ReI w A M g o u pre va vw W) (hL : Lull A W W') (h1 : w.heap.size < M) (h2 : M + 1 + 1 < A) : ReI w A M g o u pre va vw W' :=
  ⟨h.z, ⟨Lull.lowb hL h.sp.bx (by omega), h.sp.oa.lull hL, h.sp.ow.lull hL, h.sp.sa, h.sp.sw, h.sp.ne, h.sp.la, h.sp.z⟩, h.m.block (hL.low M h.m.lt (by omega)), Lull.lowb hL h.bm (by omega), Lull.lowb hL h.bb (by omega), hL.below h.b (by omega) (Nat.le_refl _), Nat.le_trans h.sz hL.size, hL.cell h.lc⟩
theorem ReI.keeps {b : Nat} (h : ReI w A M g o u pre va vw W) (hk : Keeps (fun k => k = b) W W') (h1 : M + 1 + 1 < b) (h2 : b < A) (h3 : w.heap.size < M) (h4 : g < M) : ReI w A M g o u pre va vw W' :=
  ⟨h.z, h.sp.keeps hk (by omega) (fun k e q => by have := h.sp.sa k e; omega) (fun k e q => by have := h.sp.sw k e; omega), h.m.keeps hk (by omega), h.bm.keeps hk (by omega), h.bb.keeps hk (by omega), below_keeps h.b hk (fun k e => by omega), Nat.le_trans h.sz hk.size, (World.cell?_of_block (w := W) (hk.block _ (World.block_lt_of_cell? W _ h.lc) (by show ¬ g = b; omega))).trans h.lc⟩
theorem ReX.lull (h : ReX w A M g o u pre W) (hL : Lull A W W') (h1 : w.heap.size < M) (h2 : M + 1 + 1 < A) : ReX w A M g o u pre W' := by
  obtain ⟨u0, u1, u2, u3, u4, u5, hu⟩ := h.sp
  exact ⟨h.ne, ⟨u0, u1, u2, u3, u4, u5, Lull.lowb hL hu (by omega)⟩, Lull.lowb hL h.bb (by omega), hL.below h.b (by omega) (Nat.le_refl _), Nat.le_trans h.sz hL.size, hL.cell h.lc⟩
theorem ReX.keeps {b : Nat} (h : ReX w A M g o u pre W) (hk : Keeps (fun k => k = b) W W') (h1 : M + 1 + 1 < b) (h2 : b < A) (h3 : w.heap.size < M) (h4 : g < M) : ReX w A M g o u pre W' := by
  obtain ⟨u0, u1, u2, u3, u4, u5, hu⟩ := h.sp
  exact ⟨h.ne, ⟨u0, u1, u2, u3, u4, u5, hu.keeps hk (by omega)⟩, h.bb.keeps hk (by omega), below_keeps h.b hk (fun k e => by omega), Nat.le_trans h.sz hk.size, (World.cell?_of_block (w := W) (hk.block _ (World.block_lt_of_cell? W _ h.lc) (by show ¬ g = b; omega))).trans h.lc⟩
end
set_option maxHeartbeats 4000000 in
theorem read_any (s : List UInt8) (w : World) (hs : s.length ≤ 30000) (hval : ∀ t ∈ (splitL s).1, t.length ≤ 30000) : Calls Tryz.prog 5 #[.string (B s)] w (ReadP (readL s) w) := by
  obtain ⟨sl, hsl⟩ : ∃ q, splitL s = q := ⟨_, rfl⟩
  obtain ⟨l, pl, er⟩ := sl
  have HRD := Lib.hid (show readL s = readW l er by unfold readL; rw [hsl])
  rw [HRD.out]
  clear HRD
  by_cases h : er ≠ 0 ∨ l.length < 2 ∨ l.length % 2 ≠ 0 ∨ l[0]? ≠ some cmpl
  · have hr : readW l er = ([], sp0, 4) := if_pos h
    rw [hr]
    exact read_form s w hs l pl er hsl h
  have HSP := Lib.hid fun w => split_any s w hs
  unfold SplitP at HSP
  rw [hsl] at HSP
  dsimp only at HSP
  obtain ⟨h1, h2, h3, h4⟩ : er = 0 ∧ 2 ≤ l.length ∧ l.length % 2 = 0 ∧ l[0]? = some cmpl := by
    refine ⟨?_, ?_, ?_, ?_⟩
    · exact Decidable.byContradiction fun q => h (.inl q)
    · exact Nat.le_of_not_lt fun q => h (.inr (.inl q))
    · exact Decidable.byContradiction fun q => h (.inr (.inr (.inl q)))
    · exact Decidable.byContradiction fun q => h (.inr (.inr (.inr q)))
  clear h
  subst h1
  have n0 : ¬ (l.length : Int) < 2 := by omega
  have n1 : (0 : Int) < (l.length : Int) := by omega
  have n2 : (l.length : Int).tmod 2 = 0 := by rw [Int.tmod_eq_emod_of_nonneg (by omega)]; omega
  obtain ⟨k, hk⟩ : ∃ k, l.length = k + 1 := ⟨l.length - 1, by omega⟩
  have HKL := Lib.hid hk
  have hll := splitL_len s
  rw [hsl] at hll hval
  dsimp only at hll hval
  have HVAL := Lib.hid hval
  have nw : wrap64 ((l.length : Int) - 1) = (k : Int) := by rw [show (l.length : Int) - 1 = (k : Int) by omega]; unfold wrap64; omega
  have n3 : (1 : Int) ≤ (k : Int) := by omega
  have n4 : 1 ≤ k := by omega
  have n5 : (0 : Int) ≤ (k : Int) := by omega
  clear hk hsl hval
  have hp : 0 < l.length := by omega
  have hmm := @run_makeMap Tryz.prog
  have e1 : (cmpl == [99, 111, 109, 112, 108, 101, 116, 101]) = true := rfl
  refine (callsIn_wide (n := 9)).1 ?_; refine callsIn_of_wp_marks Tryz.func5 rfl trivial ?_ rfl; simp only [Tryz.ntmps5, List.size_toArray, List.length_cons, List.length_nil, Nat.reduceAdd, Nat.reduceSub, Array.replicate_succ, Array.replicate_zero, List.push_toArray, List.append_toArray, List.nil_append, List.cons_append]
  refine wpIn_wide.2 ?_
  go_wp2
  go_step3
  go_wp2_with (go_at_call 8; refine (HSP.out _).mono ?_; rintro e w2 ⟨v2, rfl, ho2, hz2, hb2⟩; have HB2 := Lib.hid hb2; have HBX := Lib.hid ((BoxN.new w sp0V 26).below hb2); obtain ⟨⟨c0, c1, c2, c3, c4, c5⟩, f0, f1, f2, f3, f4, f5⟩ := box6 HBX.out; haveI : Old w2 w.heap.size := ⟨HBX.out.lt⟩; obtain ⟨g, off, cc, rfl, hg, hlt, hcc, hcl⟩ := own_at ho2 (by omega); haveI : Old w2 g := ⟨hlt⟩; have HCL := Lib.hid hcl; have z0 := hcl 0 _ h4; have HZ2 := Lib.hid hz2; have HO2 := Lib.hid ho2; have m1 : k ≤ cc := (by have := HKL.out; omega); rw [Nat.add_zero] at z0; clear ho2 hz2 hb2 hcl)
  go_step3
  go_wp2_with (go_at_call 9; refine (opts_any _ _ _ _).mono ?_; rintro e w4 ⟨rfl, rfl⟩)
  obtain ⟨M, hM⟩ : ∃ M, w2.heap.size = M := ⟨_, rfl⟩
  obtain ⟨w4, hw4⟩ : ∃ w4, w4 = (((w2.alloc (.map #[] 0)).alloc (.cells #[.map (some w2.heap.size)] 36)).alloc (.cells #[.int .i64 0] 27)).alloc (.cells #[.slice (some ⟨g, off + 1, none⟩) (l.length - 1 - 1) (cc - 1)] 24) := ⟨_, rfl⟩
  have hsz4 : w4.heap.size = M + 1 + 1 + 1 + 1 := by rw [hw4]; simp [hM]
  have hb4 : Below w2.heap.size w2 w4 := by rw [hw4]; exact below_alloc (below_alloc (below_alloc (below_alloc (Below.refl _ _) _) _) _) _
  have hwM : w.heap.size < M := by rw [← hM]; exact HBX.out.lt
  have htl : ((l.drop 1).take (l.length - 2)).length = l.length - 1 - 1 := by rw [List.length_take, List.length_drop]; omega
  have HG : Hid (GivesW Tryz.prog 20 #[.pointer (some ⟨M + 1 + 1 + 1, 0, none⟩)] encP (fun k => k = M + 1 + 1 + 1 ∨ k = g) (M + 1 + 1 + 1) (pairsOf l) w4) := by
    refine Lib.hid (opts_gives (M + 1 + 1 + 1) g (off + 1) (cc - 1) ((l.drop 1).take (l.length - 2)) (by rw [htl]; omega) w4 ?_ (by have := hb4.size; omega) (fun j t hj => ?_))
    · rw [htl, hw4, ← hM]
      exact (box_at (((w2.alloc (.map #[] 0)).alloc (.cells #[.map (some w2.heap.size)] 36)).alloc (.cells #[.int .i64 0] 27)) [.slice (some ⟨g, off + 1, none⟩) (l.length - 1 - 1) (cc - 1)] 24 _ (by simp) (Below.refl _ _)).c 0 _ rfl
    · have h1 : l[j + 1]? = some t := by
        rw [List.getElem?_take] at hj
        split at hj
        · rw [List.getElem?_drop, Nat.add_comm] at hj; exact hj
        · cases hj
      rw [show off + 1 + j = off + (j + 1) by omega]
      exact (hb4.cell (p := ⟨g, off + (j + 1), none⟩) hlt).trans (HCL.out (j + 1) t h1)
  have hlast : l[l.length - 1]? = some (lastN l) := by
    unfold lastN
    rw [List.getLast?_eq_getElem?, List.getElem?_eq_getElem (by omega)]
    rfl
  have HI0 : Hid (ReI w w4.heap.size M g (off + (l.length - 1)) (.string (B (lastN l))) [] (.slice none 0 0) (.slice none 0 0) w4) := by
    refine Lib.hid ⟨rfl, ⟨HBX.out.below hb4, Own.nil _ _ _, Own.nil _ _ _, fun k e => (by cases e), fun k e => (by cases e), fun k e => (by cases e), by omega, fun _ => rfl⟩, ?_, ?_, ?_, ?_, Nat.le_refl _, (hb4.cell (p := ⟨g, off + (l.length - 1), none⟩) hlt).trans (HCL.out _ _ hlast)⟩
    · rw [hw4, ← hM]; exact (SeenAt.new w2).below (below_alloc (below_alloc (below_alloc (Below.refl _ _) _) _) _)
    · rw [hw4, ← hM]; exact box_at (w2.alloc (.map #[] 0)) [.map (some w2.heap.size)] _ _ (by simp) (below_alloc (below_alloc (Below.refl _ _) _) _)
    · rw [hw4, ← hM]; exact box_at ((w2.alloc (.map #[] 0)).alloc (.cells #[.map (some w2.heap.size)] 36)) [.int .i64 0] _ _ (by simp) (below_alloc (Below.refl _ _) _)
    · exact below_then (below_then (below_alloc (Below.refl _ _) _) HB2.out) hb4
  have hgM : g < M := by omega
  have hgw : w.heap.size < g := by simp at hg; omega
  have HO4 := Lib.hid (HO2.out.below hb4)
  have HC4 := Lib.hid fun j t (ht : l[j]? = some t) => (hb4.cell (p := ⟨g, off + j, none⟩) hlt).trans (HCL.out j t ht)
  rw [← hw4]
  clear hw4 hb4 HB2 HBX c0 c1 c2 c3 c4 c5 f0 f1 f2 f3 f4 f5 z0 hg hlt HCL
  rw [hM]
  refine (wpIn_wide (n := 9)).1 ?_
  refine wpIn_iterW2 (n := 9) 44 45 9 10 (fun x : List UInt8 × List UInt8 => .string (B x.1)) (fun x => .string (B x.2)) (by omega) rfl (enters_of Tryz.func20 (by kernel_rfl) rfl) HG.out (by omega) (fun k hk => by omega)
    (fun pre W => ∃ va vw, ReI w w4.heap.size M g (off + (l.length - 1)) (.string (B (lastN l))) pre va vw W) (fun c pre W => c = .exit 0 ∧ ReX w w4.heap.size M g (off + (l.length - 1)) (.string (B (lastN l))) pre W)
    (fun s W W' hL ⟨va, vw, h⟩ => ⟨va, vw, h.lull hL hwM (by omega)⟩) (fun c s W W' hL ⟨e, h⟩ => ⟨e, h.lull hL hwM (by omega)⟩)
    (fun s W W' hk ⟨va, vw, h⟩ => ⟨va, vw, h.keeps hk (by omega) (by omega) hwM hgM⟩) (fun c s W W' hk ⟨e, h⟩ => ⟨e, h.keeps hk (by omega) (by omega) hwM hgM⟩)
    ⟨_, _, HI0.out⟩ ?assign ?body ?done ?stop
  case assign =>
    intro l x W K hK
    gi_wp2
    exact hK
  case body =>
    rintro l0 pre ⟨o, v⟩ W hs1 ⟨va, vw, g0⟩ hp0
    have hx : (o, v) ∈ pairsOf l := by
      obtain ⟨u, hu⟩ := hp0
      rw [← hu]; simp
    obtain ⟨x1, x2⟩ := pairsOf_mem hx
    have ho := HVAL.out _ x1
    have hv := HVAL.out _ x2
    have st := takes0 pre
    have hpl : pre.length ≤ 30001 := by
      have h1 := hp0.length_le
      have h2 := pairsOf_len l
      rw [List.length_append, List.length_singleton] at h1
      omega
    dsimp only at ho hv
    have HT := Lib.hid (take_any W w4.heap.size w.heap.size M va vw (takesL sp0 [] pre).2.1 (takesL sp0 [] pre).2.2 o v g0.sp g0.m (by omega) (by omega) g0.sz (by have := st.a; omega) st.s ho hv (by have := st.l; omega))
    have HS := Lib.hid (takesL_snoc sp0 [] pre (o, v) g0.z)
    obtain ⟨tq, htq⟩ : ∃ tq, takeL (takesL sp0 [] pre).2.1 (takesL sp0 [] pre).2.2 o v = tq := ⟨_, rfl⟩
    unfold TakP at HT
    rw [htq] at HT
    dsimp only at HS
    rw [htq] at HS
    clear htq x1 x2 hx ho hv st
    obtain ⟨er, x', S'⟩ := tq
    dsimp only at HT
    have m0 := g0.bm.c 0 _ rfl
    have G0 := Lib.hid g0
    have HF : Hid (∀ k, (k = w.heap.size ∨ k = M ∨ (va.ownBlock = some k ∧ w4.heap.size ≤ k)) → k < W.heap.size → w4.heap.size ≤ k → ∃ ob, W.heap[k]? = some ob ∧ ob.isCells = true) := by
      refine Lib.hid fun k hF hlt hA => ?_
      rcases hF with e | e | ⟨e, _⟩
      · omega
      · omega
      · rcases Nat.eq_zero_or_pos (takesL sp0 [] pre).2.1.a.length with h0 | h0
        · rw [g0.sp.z (List.eq_nil_of_length_eq_zero h0)] at e; cases e
        · exact g0.sp.oa.isCells h0 (by decide) e
    clear g0
    by_cases h0 : er = 0
    · subst h0
      gi_wp2_with (with_reducible (show CallsIn _ _ _ 10 _ _ _); refine (CallsIn.inRound _ (callsIn_wide.2 (HT.out))).mono ?_; rintro e5 w5 ⟨rfl, va5, vw5, h5, hm5, hk5⟩; have HK5 := Lib.hid hk5; have H5 := Lib.hid h5; have HM5 := Lib.hid hm5; have HB5 := Lib.hid (G0.out.bb.keeps hk5 (by omega)); have d5 := HB5.out.c 0 _ rfl; have f5 := HB5.out.f 0; haveI : Old w5 (M + 1 + 1) := ⟨HB5.out.lt⟩; clear h5 hm5 hk5)
      have hs : Keeps (fun k => k = M + 1 + 1) w5 (w5.setCell ⟨M + 1 + 1, 0, none⟩ (.int .i64 0)) := Keeps.setCell (F := fun k => k = M + 1 + 1) w5 (a := ⟨M + 1 + 1, 0, none⟩) rfl _
      have hK : Keeps (fun k => (k = w.heap.size ∨ k = M ∨ (va.ownBlock = some k ∧ w4.heap.size ≤ k)) ∨ k = M + 1 + 1) W (w5.setCell ⟨M + 1 + 1, 0, none⟩ (.int .i64 0)) := (HK5.out.mono fun k _ e => .inl e).trans (hs.mono fun k _ e => .inr e)
      have hlc : (w5.setCell ⟨M + 1 + 1, 0, none⟩ (.int .i64 0)).cell? ⟨g, off + (l.length - 1), none⟩ = some (.string (B (lastN l))) := by
        have hng : ¬ ((g = w.heap.size ∨ g = M ∨ (va.ownBlock = some g ∧ w4.heap.size ≤ g)) ∨ g = M + 1 + 1) := by rintro ((e | e | ⟨_, e⟩) | e) <;> omega
        exact (World.cell?_of_block (w := W) (hK.block _ (World.block_lt_of_cell? W _ G0.out.lc) hng)).trans G0.out.lc
      have hkf : KeepsFrom w4.heap.size W (w5.setCell ⟨M + 1 + 1, 0, none⟩ (.int .i64 0)) := KeepsFrom.of_keeps hK (fun k hF hlt hA => hF.elim (fun hF => HF.out k hF hlt hA) (fun e => by omega))
      refine ⟨hkf, KeepG.of_keeps hK (fun k hk => by rcases hk with e | e <;> omega) (fun k hk hF => by rcases hF with (e | e | ⟨_, e⟩) | e <;> rcases hk with q | q <;> omega), va5, vw5, ?_⟩
      have hsz := G0.out.sz
      exact ⟨by rw [HS.out], by rw [HS.out]; exact H5.out.keeps hs (by omega) (fun k e q => by have := H5.out.sa k e; omega) (fun k e q => by have := H5.out.sw k e; omega), by rw [HS.out]; exact HM5.out.keeps hs (by omega),
        G0.out.bm.keeps hK (by rintro ((e | e | ⟨_, e⟩) | e) <;> omega), boxN_set HB5.out 0 (by simp) (.int .i64 0), below_keeps G0.out.b hK (fun k hF => by rcases hF with (e | e | ⟨_, e⟩) | e <;> omega), Nat.le_trans hsz hK.size, hlc⟩
    · have HNE := Lib.hid h0
      have k1 : (er == 0) = false := by rw [beq_eq_false_iff_ne]; exact h0
      have k2 : (er != 0) = true := by rw [bne, k1]; rfl
      clear h0
      gi_wp2_with (with_reducible (show CallsIn _ _ _ 10 _ _ _); refine (CallsIn.inRound _ (callsIn_wide.2 (HT.out))).mono ?_; rintro e5 w5 ⟨rfl, va5, vw5, h5, hm5, hk5⟩; have HK5 := Lib.hid hk5; have H5 := Lib.hid h5; have HM5 := Lib.hid hm5; have HB5 := Lib.hid (G0.out.bb.keeps hk5 (by omega)); have d5 := HB5.out.c 0 _ rfl; have f5 := HB5.out.f 0; haveI : Old w5 (M + 1 + 1) := ⟨HB5.out.lt⟩; clear h5 hm5 hk5)
      have hs : Keeps (fun k => k = M + 1 + 1) w5 (w5.setCell ⟨M + 1 + 1, 0, none⟩ (.int .i64 er)) := Keeps.setCell (F := fun k => k = M + 1 + 1) w5 (a := ⟨M + 1 + 1, 0, none⟩) rfl _
      have hK : Keeps (fun k => (k = w.heap.size ∨ k = M ∨ (va.ownBlock = some k ∧ w4.heap.size ≤ k)) ∨ k = M + 1 + 1) W (w5.setCell ⟨M + 1 + 1, 0, none⟩ (.int .i64 er)) := (HK5.out.mono fun k _ e => .inl e).trans (hs.mono fun k _ e => .inr e)
      have hlc : (w5.setCell ⟨M + 1 + 1, 0, none⟩ (.int .i64 er)).cell? ⟨g, off + (l.length - 1), none⟩ = some (.string (B (lastN l))) := by
        have hng : ¬ ((g = w.heap.size ∨ g = M ∨ (va.ownBlock = some g ∧ w4.heap.size ≤ g)) ∨ g = M + 1 + 1) := by rintro ((e | e | ⟨_, e⟩) | e) <;> omega
        exact (World.cell?_of_block (w := W) (hK.block _ (World.block_lt_of_cell? W _ G0.out.lc) hng)).trans G0.out.lc
      have hkf : KeepsFrom w4.heap.size W (w5.setCell ⟨M + 1 + 1, 0, none⟩ (.int .i64 er)) := KeepsFrom.of_keeps hK (fun k hF hlt hA => hF.elim (fun hF => HF.out k hF hlt hA) (fun e => by omega))
      refine ⟨hkf, rfl, ?_⟩
      have hsz := G0.out.sz
      exact ⟨by rw [HS.out]; exact HNE.out, ⟨_, _, _, _, _, _, H5.out.bx.keeps hs (by omega)⟩, by rw [HS.out]; exact boxN_set HB5.out 0 (by simp) (.int .i64 er), below_keeps G0.out.b hK (fun k hF => by rcases hF with (e | e | ⟨_, e⟩) | e <;> omega), Nat.le_trans hsz hK.size, hlc⟩
  case done =>
    rintro Dd W hD ⟨va, vw, g0⟩ hKd
    have z0 := g0.lc
    have hsp := g0.sp
    have d0 := g0.bb.c 0 _ rfl
    have q0 : (0 : Int) ≤ (l.length : Int) - 1 := by omega
    have q1 : l.length - 1 < l.length := by omega
    have hok := takes0 (pairsOf l)
    have hwl := takes_w (x := sp0) (S := []) (by decide) (pairsOf l) (fun p hp => HVAL.out _ (pairsOf_mem hp).2)
    have hpl := pairsOf_len l
    have hrd : readW l 0 = if goodB (takesL sp0 [] (pairsOf l)).2.1 = false then ([], sp0, 2) else if spMay (lastN l) = false then ([], sp0, 5) else (lastN l, (takesL sp0 [] (pairsOf l)).2.1, 0) := by
      unfold readW
      rw [if_neg (by rintro (h | h | h | h); exact h rfl; omega; omega; exact h h4), if_neg (fun h => h g0.z)]
    obtain ⟨x, hx⟩ : ∃ x, (takesL sp0 [] (pairsOf l)).2.1 = x := ⟨_, rfl⟩
    rw [hx] at hrd hsp hok hwl
    have hsa : Sl W numC 1 va x.a := hsp.oa.sl (fun a _ => rfl) rfl
    have hsw : Sl W strC 1 vw x.w := hsp.ow.sl (fun a _ => rfl) rfl
    have HGD := Lib.hid (good_any va vw x W hsa hsw (by have := hok.a; omega) (by omega))
    have HMY := Lib.hid fun W' => spMay_any (lastN l) W' (by
      have : lastN l ∈ l := List.mem_of_getElem? hlast
      have := HVAL.out _ this
      omega)
    obtain ⟨A1, cA, rfl, -⟩ := hsp.oa.form0
    obtain ⟨A2, cW, rfl, -⟩ := hsp.ow.form0
    obtain ⟨⟨c0, c1, c2, c3, c4, c5⟩, f0, f1, f2, f3, f4, f5⟩ := box6 hsp.bx
    have HSP := Lib.hid hsp
    have HBB0 := Lib.hid g0.bb
    have HBE0 := Lib.hid g0.b
    have HKD0 := Lib.hid hKd
    have HLC := Lib.hid z0
    clear g0 hsp hx hok hwl hpl hsa hsw hKd
    cases hgd : goodB x with
    | false =>
      rw [hgd] at HGD
      rw [hgd, if_pos rfl] at hrd
      have HRD := Lib.hid hrd
      clear hgd hrd
      gi_wp2
      go_wp2_with (go_at_call 11; refine HGD.out.mono ?_; rintro e w7 ⟨rfl, hb7⟩; have HB7 := Lib.hid hb7; have HBB7 := Lib.hid (HBB0.out.below hb7); have d7 := HBB7.out.c 0 _ rfl; have f7 := HBB7.out.f 0; haveI : Old w7 (M + 1 + 1) := ⟨HBB7.out.lt⟩; clear hb7)
      have hs : Keeps (fun k => k = M + 1 + 1) w7 (w7.setCell ⟨M + 1 + 1, 0, none⟩ (.int .i64 2)) := Keeps.setCell (F := fun k => k = M + 1 + 1) w7 (a := ⟨M + 1 + 1, 0, none⟩) rfl _
      have HBB := Lib.hid (boxN_set HBB7.out 0 (by simp) (.int .i64 2))
      have HSB := Lib.hid ((HSP.out.bx.below HB7.out).keeps hs (by omega))
      have HBE := Lib.hid (below_keeps (below_then HBE0.out HB7.out) hs (fun k e => by omega))
      have HKD := Lib.hid ((hs.block Dd (Nat.lt_of_lt_of_le (Array.getElem?_eq_some_iff.1 HKD0.out).1 HB7.out.size) (by omega)).trans ((HB7.out.block Dd (Array.getElem?_eq_some_iff.1 HKD0.out).1).trans HKD0.out))
      clear d7 f7 d0 hs
      generalize World.setCell w7 _ _ = W8 at *
      have hKd := HKD.out
      refine wp_noPanic ?_
      refine wp_region_keyed (fun W => W.cell? ⟨M + 1 + 1, 0, none⟩ = some (.int .i64 2)) [] (by kernel_rfl) ?_
      have HSB := Lib.hid (HSB.out.below (below_drew (Below.refl _ _)))
      have HBB := Lib.hid (HBB.out.below (below_drew (Below.refl _ _)))
      have HBE := Lib.hid (below_drew HBE.out)
      have HKD : Hid ((World.drew W8).heap[Dd]? = some (.deferred (some []))) := HKD
      clear hKd
      generalize World.drew _ = D at *
      refine wpAnyK_take2 (i := 0) (some 71) (v := ?v0_1z21) rfl rfl (by kernel_rfl) (by kernel_rfl) (by kernel_rfl) (by kernel_rfl) (fun _ _ _ h => h) (Or.inl ⟨by rfl, ?y0_1z21⟩) (fun _ => HBB.out.c 0 _ rfl) ?r0_1z21
      case y0_1z21 =>
        intro w hSw
        go_simp
        try with_reducible rfl
      try simp only [Act.put, List.setIfInBounds_toArray, List.set_cons_zero, List.set_cons_succ]
      refine wpAnyK_load2 (i := 1) [4] (some 72) (v := ?v1_2z21) rfl rfl (by kernel_rfl) (by kernel_rfl) (by kernel_rfl) (by kernel_rfl) (by kernel_rfl) (fun _ _ _ h => h) (Or.inl ⟨by rfl, ?y1_2z21⟩) (fun _ => HBB.out.c 0 _ rfl) ?r1_2z21
      case y1_2z21 =>
        intro w hSw
        (try dsimp only at hSw)
        go_split_ands
        go_simp
        try with_reducible rfl
      try simp only [Act.put, List.setIfInBounds_toArray, List.set_cons_zero, List.set_cons_succ]
      refine wpAnyK_take2 (i := 2) (some 2) (v := ?v2_3z21) rfl rfl (by kernel_rfl) (by kernel_rfl) (by kernel_rfl) (by kernel_rfl) (fun _ _ _ h => h) (Or.inl ⟨by rfl, ?y2_3z21⟩) (fun _ => HBB.out.c 0 _ rfl) ?r2_3z21
      case y2_3z21 =>
        intro w hSw
        go_simp
        try with_reducible rfl
      try simp only [Act.put, List.setIfInBounds_toArray, List.set_cons_zero, List.set_cons_succ]
      refine wpAnyK_ready (rs := [3]) (by kernel_rfl) (by simp) ?_
      refine AllReadyK.cons (i := 3) rfl (fun K hK => ?_) ?_
      · obtain ⟨⟨c0, c1, c2, c3, c4, c5⟩, f0, f1, f2, f3, f4, f5⟩ := box6 HSB.out
        go_simp
        obtain ⟨hbx, hk⟩ := box_fill6 HSB.out (.slice none 0 0) (.slice none 0 0) (.string (B [])) (.string (B [])) (.string (B [])) (.string (B []))
        have HSB := Lib.hid hbx
        have HBB := Lib.hid (HBB.out.keeps hk (by omega))
        have HBE := Lib.hid (below_keeps HBE.out hk (fun k e => by omega))
        have HKD := Lib.hid ((hk.block Dd (Array.getElem?_eq_some_iff.1 HKD.out).1 (by omega)).trans HKD.out)
        clear hbx hk c0 c1 c2 c3 c4 c5 f0 f1 f2 f3 f4 f5
        generalize World.setCell (World.setCell (World.setCell (World.setCell (World.setCell (World.setCell D _ _) _ _) _ _) _ _) _ _) _ _ = D at *
        refine hK.out _ _ (fun _ => HBB.out.c 0 _ rfl) ?_
        clear hK K
        try simp only [Act.put, List.setIfInBounds_toArray, List.set_cons_zero, List.set_cons_succ]
        refine wpAnyK_take2 (i := 4) (some 4) (v := ?v4_4z21) rfl rfl (by kernel_rfl) (by kernel_rfl) (by kernel_rfl) (by kernel_rfl) (fun _ _ _ h => h) (Or.inl ⟨by rfl, ?y4_4z21⟩) (fun _ => HBB.out.c 0 _ rfl) ?r4_4z21
        case y4_4z21 =>
          intro w hSw
          go_simp
          try with_reducible rfl
        try simp only [Act.put, List.setIfInBounds_toArray, List.set_cons_zero, List.set_cons_succ]
        refine wpAnyK_done (by kernel_rfl) ?_ _
        rw [noPanic_normal]
        go_wp2
        rw [Exit.noGoto_ret, HRD.out]
        have hL : Lull w4.heap.size D (D.putObj Dd (.deferred none)) := Lull.of_grown (grownBy_putObj' _ Dd _) (fun r e => by cases e; exact ⟨hD, _, HKD.out, rfl⟩)
        obtain ⟨⟨r0, r1, r2, r3, r4, r5⟩, -⟩ := box6 (Lull.lowb hL HSB.out (by omega))
        refine ⟨by simp, .inl ⟨_, _, rfl, run_takeDeferred HKD.out, ?_⟩⟩
        exact ⟨.tuple #[.string (B []), spV (.slice none 0 0) (.slice none 0 0) sp0, .int .i64 2], by simp [results, Tryz.results5, go_sem, sp0, r0, r1, r2, r3, r4, r5], .slice none 0 0, .slice none 0 0, rfl, Own.nil _ _ _, Own.nil _ _ _, hL.below HBE.out (by omega) (Nat.le_refl _)⟩
      exact AllReadyK.nil
    | true =>
      rw [hgd] at HGD
      rw [hgd, if_neg (by simp)] at hrd
      clear hgd
      cases hmy : spMay (lastN l) with
      | false =>
        rw [hmy] at HMY
        rw [hmy, if_pos rfl] at hrd
        have HRD := Lib.hid hrd
        clear hmy hrd
        gi_wp2
        go_wp2_with (first
          | (go_at_call 11; refine HGD.out.mono ?_; rintro e w7 ⟨rfl, hb7⟩; have HB7 := Lib.hid hb7; have HBB7 := Lib.hid (HBB0.out.below hb7); have d7 := HBB7.out.c 0 _ rfl; have f7 := HBB7.out.f 0; haveI : Old w7 (M + 1 + 1) := ⟨HBB7.out.lt⟩; clear hb7)
          | (go_at_call 12; refine (HMY.out _).mono ?_; rintro e w' ⟨rfl, rfl⟩))
        have hs : Keeps (fun k => k = M + 1 + 1) w7 (w7.setCell ⟨M + 1 + 1, 0, none⟩ (.int .i64 5)) := Keeps.setCell (F := fun k => k = M + 1 + 1) w7 (a := ⟨M + 1 + 1, 0, none⟩) rfl _
        have HBB := Lib.hid (boxN_set HBB7.out 0 (by simp) (.int .i64 5))
        have HSB := Lib.hid ((HSP.out.bx.below HB7.out).keeps hs (by omega))
        have HBE := Lib.hid (below_keeps (below_then HBE0.out HB7.out) hs (fun k e => by omega))
        have HKD := Lib.hid ((hs.block Dd (Nat.lt_of_lt_of_le (Array.getElem?_eq_some_iff.1 HKD0.out).1 HB7.out.size) (by omega)).trans ((HB7.out.block Dd (Array.getElem?_eq_some_iff.1 HKD0.out).1).trans HKD0.out))
        clear d7 f7 d0 hs
        generalize World.setCell w7 _ _ = W8 at *
        have hKd := HKD.out
        refine wp_noPanic ?_
        refine wp_region_keyed (fun W => W.cell? ⟨M + 1 + 1, 0, none⟩ = some (.int .i64 5)) [] (by kernel_rfl) ?_
        have HSB := Lib.hid (HSB.out.below (below_drew (Below.refl _ _)))
        have HBB := Lib.hid (HBB.out.below (below_drew (Below.refl _ _)))
        have HBE := Lib.hid (below_drew HBE.out)
        have HKD : Hid ((World.drew W8).heap[Dd]? = some (.deferred (some []))) := HKD
        clear hKd
        generalize World.drew _ = D at *
        refine wpAnyK_take2 (i := 0) (some 71) (v := ?v0_1z22) rfl rfl (by kernel_rfl) (by kernel_rfl) (by kernel_rfl) (by kernel_rfl) (fun _ _ _ h => h) (Or.inl ⟨by rfl, ?y0_1z22⟩) (fun _ => HBB.out.c 0 _ rfl) ?r0_1z22
        case y0_1z22 =>
          intro w hSw
          go_simp
          try with_reducible rfl
        try simp only [Act.put, List.setIfInBounds_toArray, List.set_cons_zero, List.set_cons_succ]
        refine wpAnyK_load2 (i := 1) [4] (some 72) (v := ?v1_2z22) rfl rfl (by kernel_rfl) (by kernel_rfl) (by kernel_rfl) (by kernel_rfl) (by kernel_rfl) (fun _ _ _ h => h) (Or.inl ⟨by rfl, ?y1_2z22⟩) (fun _ => HBB.out.c 0 _ rfl) ?r1_2z22
        case y1_2z22 =>
          intro w hSw
          (try dsimp only at hSw)
          go_split_ands
          go_simp
          try with_reducible rfl
        try simp only [Act.put, List.setIfInBounds_toArray, List.set_cons_zero, List.set_cons_succ]
        refine wpAnyK_take2 (i := 2) (some 2) (v := ?v2_3z22) rfl rfl (by kernel_rfl) (by kernel_rfl) (by kernel_rfl) (by kernel_rfl) (fun _ _ _ h => h) (Or.inl ⟨by rfl, ?y2_3z22⟩) (fun _ => HBB.out.c 0 _ rfl) ?r2_3z22
        case y2_3z22 =>
          intro w hSw
          go_simp
          try with_reducible rfl
        try simp only [Act.put, List.setIfInBounds_toArray, List.set_cons_zero, List.set_cons_succ]
        refine wpAnyK_ready (rs := [3]) (by kernel_rfl) (by simp) ?_
        refine AllReadyK.cons (i := 3) rfl (fun K hK => ?_) ?_
        · obtain ⟨⟨c0, c1, c2, c3, c4, c5⟩, f0, f1, f2, f3, f4, f5⟩ := box6 HSB.out
          go_simp
          obtain ⟨hbx, hk⟩ := box_fill6 HSB.out (.slice none 0 0) (.slice none 0 0) (.string (B [])) (.string (B [])) (.string (B [])) (.string (B []))
          have HSB := Lib.hid hbx
          have HBB := Lib.hid (HBB.out.keeps hk (by omega))
          have HBE := Lib.hid (below_keeps HBE.out hk (fun k e => by omega))
          have HKD := Lib.hid ((hk.block Dd (Array.getElem?_eq_some_iff.1 HKD.out).1 (by omega)).trans HKD.out)
          clear hbx hk c0 c1 c2 c3 c4 c5 f0 f1 f2 f3 f4 f5
          generalize World.setCell (World.setCell (World.setCell (World.setCell (World.setCell (World.setCell D _ _) _ _) _ _) _ _) _ _) _ _ = D at *
          refine hK.out _ _ (fun _ => HBB.out.c 0 _ rfl) ?_
          clear hK K
          try simp only [Act.put, List.setIfInBounds_toArray, List.set_cons_zero, List.set_cons_succ]
          refine wpAnyK_take2 (i := 4) (some 4) (v := ?v4_4z22) rfl rfl (by kernel_rfl) (by kernel_rfl) (by kernel_rfl) (by kernel_rfl) (fun _ _ _ h => h) (Or.inl ⟨by rfl, ?y4_4z22⟩) (fun _ => HBB.out.c 0 _ rfl) ?r4_4z22
          case y4_4z22 =>
            intro w hSw
            go_simp
            try with_reducible rfl
          try simp only [Act.put, List.setIfInBounds_toArray, List.set_cons_zero, List.set_cons_succ]
          refine wpAnyK_done (by kernel_rfl) ?_ _
          rw [noPanic_normal]
          go_wp2
          rw [Exit.noGoto_ret, HRD.out]
          have hL : Lull w4.heap.size D (D.putObj Dd (.deferred none)) := Lull.of_grown (grownBy_putObj' _ Dd _) (fun r e => by cases e; exact ⟨hD, _, HKD.out, rfl⟩)
          obtain ⟨⟨r0, r1, r2, r3, r4, r5⟩, -⟩ := box6 (Lull.lowb hL HSB.out (by omega))
          refine ⟨by simp, .inl ⟨_, _, rfl, run_takeDeferred HKD.out, ?_⟩⟩
          exact ⟨.tuple #[.string (B []), spV (.slice none 0 0) (.slice none 0 0) sp0, .int .i64 5], by simp [results, Tryz.results5, go_sem, sp0, r0, r1, r2, r3, r4, r5], .slice none 0 0, .slice none 0 0, rfl, Own.nil _ _ _, Own.nil _ _ _, hL.below HBE.out (by omega) (Nat.le_refl _)⟩
        exact AllReadyK.nil
      | true =>
        rw [hmy] at HMY
        rw [hmy, if_neg (by simp)] at hrd
        have HRD := Lib.hid hrd
        clear hmy hrd
        gi_wp2
        go_wp2_with (first
          | (go_at_call 11; refine HGD.out.mono ?_; rintro e w7 ⟨rfl, hb7⟩; have HSP7 := Lib.hid (HSP.out.below hb7); have HBE7 := Lib.hid (below_then HBE0.out hb7); have HKD7 := Lib.hid ((hb7.block Dd (Array.getElem?_eq_some_iff.1 HKD0.out).1).trans HKD0.out); clear hb7)
          | (go_at_call 12; refine (HMY.out _).mono ?_; rintro e w' ⟨rfl, rfl⟩))
        have HSP := HSP7
        have HBE := HBE7
        have hKd := HKD7.out
        have HSB := Lib.hid HSP7.out.bx
        clear HSP7 HBE7 c0 c1 c2 c3 c4 c5 f0 f1 f2 f3 f4 f5
        obtain ⟨W8, rfl⟩ : ∃ W8, W8 = w7 := ⟨_, rfl⟩
        refine wp_noPanic ?_
        refine wp_region_keyed (fun W => W.cell? ⟨w.heap.size, 0, none⟩ = some (.slice A1 x.a.length cA) ∧ W.cell? ⟨w.heap.size, 1, none⟩ = some (.slice A2 x.w.length cW) ∧ W.cell? ⟨w.heap.size, 2, none⟩ = some (.string (B x.g)) ∧ W.cell? ⟨w.heap.size, 3, none⟩ = some (.string (B x.x)) ∧ W.cell? ⟨w.heap.size, 4, none⟩ = some (.string (B x.p)) ∧ W.cell? ⟨w.heap.size, 5, none⟩ = some (.string (B x.s))) [3] (by kernel_rfl) ?_
        have HSP := Lib.hid (HSP.out.below (below_drew (Below.refl _ _)))
        have HBE := Lib.hid (below_drew HBE.out)
        have HKD : Hid ((World.drew W8).heap[Dd]? = some (.deferred (some []))) := Lib.hid hKd
        clear hKd
        generalize World.drew _ = D at *
        refine wpAnyK_take2 (i := 0) (some 58) (v := ?v0_1z23) rfl rfl (by kernel_rfl) (by kernel_rfl) (by kernel_rfl) (by kernel_rfl) (fun _ _ _ h => h) (Or.inl ⟨by rfl, ?y0_1z23⟩) (fun _ => (box6 HSP.out.bx).1) ?r0_1z23
        case y0_1z23 =>
          intro w hSw
          go_simp
          try with_reducible rfl
        try simp only [Act.put, List.setIfInBounds_toArray, List.set_cons_zero, List.set_cons_succ]
        refine wpAnyK_load2 (i := 1) [3, 4] (some 59) (v := ?v1_2z23) rfl rfl (by kernel_rfl) (by kernel_rfl) (by kernel_rfl) (by kernel_rfl) (by kernel_rfl) (fun _ _ _ h => h) (Or.inl ⟨by rfl, ?y1_2z23⟩) (fun _ => (box6 HSP.out.bx).1) ?r1_2z23
        case y1_2z23 =>
          intro w hSw
          (try dsimp only at hSw)
          go_split_ands
          go_simp
          try with_reducible rfl
        try simp only [Act.put, List.setIfInBounds_toArray, List.set_cons_zero, List.set_cons_succ]
        refine wpAnyK_take2 (i := 2) (some 2) (v := ?v2_3z23) rfl rfl (by kernel_rfl) (by kernel_rfl) (by kernel_rfl) (by kernel_rfl) (fun _ _ _ h => h) (Or.inl ⟨by rfl, ?y2_3z23⟩) (fun _ => (box6 HSP.out.bx).1) ?r2_3z23
        case y2_3z23 =>
          intro w hSw
          go_simp
          try with_reducible rfl
        try simp only [Act.put, List.setIfInBounds_toArray, List.set_cons_zero, List.set_cons_succ]
        refine wpAnyK_ready (rs := [3]) (by kernel_rfl) (by simp) ?_
        refine AllReadyK.cons (i := 3) rfl (fun K hK => ?_) ?_
        · obtain ⟨⟨c0, c1, c2, c3, c4, c5⟩, f0, f1, f2, f3, f4, f5⟩ := box6 HSP.out.bx
          go_simp
          obtain ⟨hbx, hk⟩ := box_fill6 HSP.out.bx (.slice A1 x.a.length cA) (.slice A2 x.w.length cW) (.string (B x.g)) (.string (B x.x)) (.string (B x.p)) (.string (B x.s))
          have hla := HSP.out.la
          have HBE := Lib.hid (below_keeps HBE.out hk (fun k e => by omega))
          have HKD := Lib.hid ((hk.block Dd (Array.getElem?_eq_some_iff.1 HKD.out).1 (by omega)).trans HKD.out)
          have HSP := Lib.hid (SpAt.mk hbx (HSP.out.oa.keeps hk (fun k e _ q => by have := HSP.out.sa k e; omega)) (HSP.out.ow.keeps hk (fun k e _ q => by have := HSP.out.sw k e; omega)) HSP.out.sa HSP.out.sw HSP.out.ne HSP.out.la HSP.out.z)
          clear hbx hk c0 c1 c2 c3 c4 c5 f0 f1 f2 f3 f4 f5
          generalize World.setCell (World.setCell (World.setCell (World.setCell (World.setCell (World.setCell D _ _) _ _) _ _) _ _) _ _) _ _ = D at *
          refine hK.out _ _ (fun h => Bool.noConfusion ((show unl _ _ = false by kernel_rfl).symm.trans h)) ?_
          clear hK K
          try simp only [Act.put, List.setIfInBounds_toArray, List.set_cons_zero, List.set_cons_succ]
          refine wpAnyK_take2 (i := 4) (some 4) (v := ?v4_4z23) rfl rfl (by kernel_rfl) (by kernel_rfl) (by kernel_rfl) (by kernel_rfl) (fun _ _ _ h => h) (Or.inl ⟨by rfl, ?y4_4z23⟩) (fun h => Bool.noConfusion ((show unl _ _ = false by kernel_rfl).symm.trans h)) ?r4_4z23
          case y4_4z23 =>
            intro w hSw
            go_simp
            try with_reducible rfl
          try simp only [Act.put, List.setIfInBounds_toArray, List.set_cons_zero, List.set_cons_succ]
          refine wpAnyK_done (by kernel_rfl) ?_ _
          rw [noPanic_normal]
          go_wp2
          rw [Exit.noGoto_ret, HRD.out]
          have hL : Lull w4.heap.size D (D.putObj Dd (.deferred none)) := Lull.of_grown (grownBy_putObj' _ Dd _) (fun r e => by cases e; exact ⟨hD, _, HKD.out, rfl⟩)
          obtain ⟨⟨r0, r1, r2, r3, r4, r5⟩, -⟩ := box6 (Lull.lowb hL HSP.out.bx (by omega))
          refine ⟨by simp, .inl ⟨_, _, rfl, run_takeDeferred HKD.out, ?_⟩⟩
          exact ⟨.tuple #[.string (B (lastN l)), spV (.slice A1 x.a.length cA) (.slice A2 x.w.length cW) x, .int .i64 0], by simp [results, Tryz.results5, go_sem, r0, r1, r2, r3, r4, r5], .slice A1 x.a.length cA, .slice A2 x.w.length cW, rfl, (HSP.out.oa.lull hL).mono (by omega), (HSP.out.ow.lull hL).mono (by omega), hL.below HBE.out (by omega) (Nat.le_refl _)⟩
        exact AllReadyK.nil
  case stop =>
    rintro Dd c pre W hD hpre ⟨rfl, hx⟩ hKd
    have hrd : readW l 0 = ([], sp0, (takesL sp0 [] pre).1) := by
      obtain ⟨u, hu⟩ := hpre
      have := takesL_stop sp0 [] pre u hx.ne
      unfold readW
      rw [if_neg (by rintro (h | h | h | h); exact h rfl; omega; omega; exact h h4), ← hu, this, if_pos hx.ne]
    have z0 := hx.lc
    have hbb := hx.bb
    have hne := hx.ne
    have hkp : hx.sp = hx.sp := rfl
    obtain ⟨u0, u1, u2, u3, u4, u5, hsb⟩ := hx.sp
    obtain ⟨er, her⟩ : ∃ er, (takesL sp0 [] pre).1 = er := ⟨_, rfl⟩
    rw [her] at hbb hne hrd
    have HRD := Lib.hid hrd
    have HBB := Lib.hid hbb
    have HSB := Lib.hid hsb
    have HBE := Lib.hid hx.b
    have HKD := Lib.hid hKd
    have d0 := hbb.c 0 _ rfl
    have q0 : (0 : Int) ≤ (l.length : Int) - 1 := by omega
    have q1 : l.length - 1 < l.length := by omega
    have k1 : (er == 0) = false := by rw [beq_eq_false_iff_ne]; exact hne
    have k2 : (er != 0) = true := by rw [bne, k1]; rfl
    clear hx hbb hsb hKd her hne hkp hpre hrd
    gi_wp2
    go_wp2
    obtain ⟨W8, rfl⟩ : ∃ W8, W8 = W := ⟨_, rfl⟩
    clear d0 z0
    have hKd := HKD.out
    refine wp_noPanic ?_
    refine wp_region_keyed (fun W => W.cell? ⟨M + 1 + 1, 0, none⟩ = some (.int .i64 er)) [] (by kernel_rfl) ?_
    have HSB := Lib.hid (HSB.out.below (below_drew (Below.refl _ _)))
    have HBB := Lib.hid (HBB.out.below (below_drew (Below.refl _ _)))
    have HBE := Lib.hid (below_drew HBE.out)
    have HKD : Hid ((World.drew W8).heap[Dd]? = some (.deferred (some []))) := HKD
    clear hKd
    generalize World.drew _ = D at *
    refine wpAnyK_take2 (i := 0) (some 71) (v := ?v0_1z24) rfl rfl (by kernel_rfl) (by kernel_rfl) (by kernel_rfl) (by kernel_rfl) (fun _ _ _ h => h) (Or.inl ⟨by rfl, ?y0_1z24⟩) (fun _ => HBB.out.c 0 _ rfl) ?r0_1z24
    case y0_1z24 =>
      intro w hSw
      go_simp
      try with_reducible rfl
    try simp only [Act.put, List.setIfInBounds_toArray, List.set_cons_zero, List.set_cons_succ]
    refine wpAnyK_load2 (i := 1) [4] (some 72) (v := ?v1_2z24) rfl rfl (by kernel_rfl) (by kernel_rfl) (by kernel_rfl) (by kernel_rfl) (by kernel_rfl) (fun _ _ _ h => h) (Or.inl ⟨by rfl, ?y1_2z24⟩) (fun _ => HBB.out.c 0 _ rfl) ?r1_2z24
    case y1_2z24 =>
      intro w hSw
      (try dsimp only at hSw)
      go_split_ands
      go_simp
      try with_reducible rfl
    try simp only [Act.put, List.setIfInBounds_toArray, List.set_cons_zero, List.set_cons_succ]
    refine wpAnyK_take2 (i := 2) (some 2) (v := ?v2_3z24) rfl rfl (by kernel_rfl) (by kernel_rfl) (by kernel_rfl) (by kernel_rfl) (fun _ _ _ h => h) (Or.inl ⟨by rfl, ?y2_3z24⟩) (fun _ => HBB.out.c 0 _ rfl) ?r2_3z24
    case y2_3z24 =>
      intro w hSw
      go_simp
      try with_reducible rfl
    try simp only [Act.put, List.setIfInBounds_toArray, List.set_cons_zero, List.set_cons_succ]
    refine wpAnyK_ready (rs := [3]) (by kernel_rfl) (by simp) ?_
    refine AllReadyK.cons (i := 3) rfl (fun K hK => ?_) ?_
    · obtain ⟨⟨c0, c1, c2, c3, c4, c5⟩, f0, f1, f2, f3, f4, f5⟩ := box6 HSB.out
      go_simp
      obtain ⟨hbx, hk⟩ := box_fill6 HSB.out (.slice none 0 0) (.slice none 0 0) (.string (B [])) (.string (B [])) (.string (B [])) (.string (B []))
      have HSB := Lib.hid hbx
      have HBB := Lib.hid (HBB.out.keeps hk (by omega))
      have HBE := Lib.hid (below_keeps HBE.out hk (fun k e => by omega))
      have HKD := Lib.hid ((hk.block Dd (Array.getElem?_eq_some_iff.1 HKD.out).1 (by omega)).trans HKD.out)
      clear hbx hk c0 c1 c2 c3 c4 c5 f0 f1 f2 f3 f4 f5
      generalize World.setCell (World.setCell (World.setCell (World.setCell (World.setCell (World.setCell D _ _) _ _) _ _) _ _) _ _) _ _ = D at *
      refine hK.out _ _ (fun _ => HBB.out.c 0 _ rfl) ?_
      clear hK K
      try simp only [Act.put, List.setIfInBounds_toArray, List.set_cons_zero, List.set_cons_succ]
      refine wpAnyK_take2 (i := 4) (some 4) (v := ?v4_4z24) rfl rfl (by kernel_rfl) (by kernel_rfl) (by kernel_rfl) (by kernel_rfl) (fun _ _ _ h => h) (Or.inl ⟨by rfl, ?y4_4z24⟩) (fun _ => HBB.out.c 0 _ rfl) ?r4_4z24
      case y4_4z24 =>
        intro w hSw
        go_simp
        try with_reducible rfl
      try simp only [Act.put, List.setIfInBounds_toArray, List.set_cons_zero, List.set_cons_succ]
      refine wpAnyK_done (by kernel_rfl) ?_ _
      rw [noPanic_normal]
      go_wp2
      rw [Exit.noGoto_ret, HRD.out]
      have hL : Lull w4.heap.size D (D.putObj Dd (.deferred none)) := Lull.of_grown (grownBy_putObj' _ Dd _) (fun r e => by cases e; exact ⟨hD, _, HKD.out, rfl⟩)
      obtain ⟨⟨r0, r1, r2, r3, r4, r5⟩, -⟩ := box6 (Lull.lowb hL HSB.out (by omega))
      refine ⟨by simp, .inl ⟨_, _, rfl, run_takeDeferred HKD.out, ?_⟩⟩
      exact ⟨.tuple #[.string (B []), spV (.slice none 0 0) (.slice none 0 0) sp0, .int .i64 er], by simp [results, Tryz.results5, go_sem, sp0, r0, r1, r2, r3, r4, r5], .slice none 0 0, .slice none 0 0, rfl, Own.nil _ _ _, Own.nil _ _ _, hL.below HBE.out (by omega) (Nat.le_refl _)⟩
    exact AllReadyK.nil
end Go.Proofs.YtadaeecokkokjaaGreat.Spc
