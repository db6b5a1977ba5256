/-
  The walks of layer 20, on: the law and the reference: awake, Light, May, Good. Conditions: rows and texts of at most 2^30.
-/
import Derived.Test.YtadaeecokkokjaaGreatSpecD
set_option linter.unusedSimpArgs false
set_option linter.unusedVariables false
namespace Go.Proofs.YtadaeecokkokjaaGreat.Spc
open Go.ChangeShapes Go.WideShapes Go.Deep Go.RowKit Mc Pa Quo Cls
set_option maxRecDepth 100000
def awT : List UInt8 := [99, 111, 109, 112, 108, 101, 116, 101, 32, 45, 65, 32, 102, 105, 108, 101, 115, 32, 45, 88, 32, 39, 42, 46, 111, 39, 32, 99, 99]
theorem aw_split : splitL awT = ([[99, 111, 109, 112, 108, 101, 116, 101], [45, 65], [102, 105, 108, 101, 115], [45, 88], [42, 46, 111], [99, 99]], 0, 0) := by kernel_rfl
theorem aw_read : readL awT = ([99, 99], ⟨[1], [], [], [42, 46, 111], [], []⟩, 0) := by kernel_rfl
theorem awake20_any (w : World) : Calls Tryz.prog 4 #[] w fun e w' => e = .returned (.bool true) ∧ Below w.heap.size w w' := by
  have h := read_any awT w (by decide) (by rw [aw_split]; decide)
  rw [aw_read] at h
  have HR := Lib.hid h
  clear h
  unfold ReadP at HR
  go_enter Tryz.func4, Tryz.ntmps4
  go_wp2_with (go_at_call 5; refine HR.out.mono ?_; rintro e w2 ⟨va, vw, rfl, ha, hw, hb⟩; obtain ⟨Aa, ca, rfl, -⟩ := ha.form0; obtain ⟨Aw, cw, rfl, -⟩ := hw.form0; have HB := Lib.hid hb; clear ha hw hb)
  go_ret
  exact ⟨rfl, below_alloc HB.out _⟩
set_option maxHeartbeats 1000000 in
theorem rMay_any (n : List UInt8) (w : World) (hn : n.length ≤ 1073741824) : Calls Tryz.prog 16 #[.string (B n)] w fun e w' => e = .returned (.bool (spMay n)) ∧ w = w' := by
  have HM := Lib.hid (refMay_any 4 n w hn)
  have HQ := Lib.hid (show spMay n = (decide (n = [45, 68]) || decide (n = [45, 69]) || (mayB 4 n && decide (n.headD 45 ≠ 45))) from rfl)
  by_cases h1 : n = [45, 68]
  · have e1 : (n == [45, 68]) = true := by rw [h1]; rfl
    rw [decide_eq_true h1] at HQ
    clear h1
    go_enter Tryz.func16, Tryz.ntmps16
    go_wp2
    go_ret
    exact ⟨by rw [HQ.out]; rfl, rfl⟩
  by_cases h2 : n = [45, 69]
  · have e1 : (n == [45, 68]) = false := by simpa using h1
    have e2 : (n == [45, 69]) = true := by rw [h2]; rfl
    rw [decide_eq_false h1, decide_eq_true h2] at HQ
    clear h1 h2
    go_enter Tryz.func16, Tryz.ntmps16
    go_wp2
    go_ret
    exact ⟨by rw [HQ.out]; rfl, rfl⟩
  have e1 : (n == [45, 68]) = false := by simpa using h1
  have e2 : (n == [45, 69]) = false := by simpa using h2
  rw [decide_eq_false h1, decide_eq_false h2] at HQ
  clear h1 h2
  cases hm : mayB 4 n with
  | false =>
    rw [hm] at HM HQ
    clear hm
    go_enter Tryz.func16, Tryz.ntmps16
    go_wp2_with (go_at_call 31; refine (HM.out).mono ?_; rintro e w' ⟨rfl, rfl⟩)
    go_ret
    exact ⟨by rw [HQ.out]; rfl, rfl⟩
  | true =>
    cases n with
    | nil => rw [mayB_nil] at hm; cases hm
    | cons c r =>
      rw [hm] at HM HQ
      clear hm
      rw [List.headD_cons] at HQ
      go_enter Tryz.func16, Tryz.ntmps16
      go_wp2_with (go_at_call 31; refine (HM.out).mono ?_; rintro e w' ⟨rfl, rfl⟩)
      go_ret
      refine ⟨?_, rfl⟩
      rw [HQ.out]
      exact congrArg Ending.returned (congrArg Value.bool (c45 c))
end Go.Proofs.YtadaeecokkokjaaGreat.Spc
namespace Go.Proofs.YtadaeecokkokjaaGreat.Spc
open Go.ChangeShapes Go.WideShapes Go.Deep Go.RowKit Mc Pa Quo Cls
set_option maxRecDepth 100000
/-- No text but such of at most m bytes. -/
def shortB (m : Nat) (t : List UInt8) : Bool := decide (t.length ≤ m)
theorem all_take {ts : List (List UInt8)} {k : Nat} {t : List UInt8} (q : List UInt8 → Bool) (h : ts[k]? = some t) : (ts.take (k + 1)).all q = ((ts.take k).all q && q t) := by
  rw [List.take_add_one, h, List.all_append]; simp
theorem all_no {ts : List (List UInt8)} {k : Nat} (q : List UInt8 → Bool) (h : (ts.take k).all q = false) : ts.all q = false := by
  rw [← List.take_append_drop k ts, List.all_append, h]; rfl
theorem rises_last {z : Int} {l : List Int} (h : risesB z l = true) : z ≤ lastOf z l := by
  induction l generalizing z with
  | nil => exact Int.le_refl _
  | cons a r ih =>
    rw [risesB] at h
    split at h
    · cases h
    split at h
    · cases h
    rename_i h1 h2
    have h3 := ih h
    have : lastOf z (a :: r) = lastOf a r := by
      unfold lastOf
      cases r with
      | nil => rfl
      | cons b t => rw [List.getLast?_cons_cons, List.getLast?_eq_some_getLast (List.cons_ne_nil b t)]; rfl
    rw [this]
    omega
theorem good_short (x : Sp) : goodB x = (risesB 0 x.a && (decide (x.w.length ≤ 1000) && shortB 1000 x.g && shortB 1000 x.x && shortB 1000 x.p && shortB 1000 x.s && x.w.all (shortB 1000))) := by
  have h1 : ∀ t, longB t = !shortB 1000 t := fun t => by
    unfold longB shortB
    by_cases h : t.length ≤ 1000
    · rw [decide_eq_true h, decide_eq_false (by omega)]; rfl
    · rw [decide_eq_false h, decide_eq_true (by omega)]; rfl
  have h2 : x.w.any longB = !x.w.all (shortB 1000) := by
    generalize x.w = l
    induction l with
    | nil => rfl
    | cons a r ih => rw [List.any_cons, List.all_cons, ih, h1]; cases shortB 1000 a <;> rfl
  unfold goodB
  rw [h2]
  simp only [List.any_cons, List.any_nil, h1]
  cases risesB 0 x.a <;> cases decide (x.w.length ≤ 1000) <;> cases x.w.all (shortB 1000) <;> cases shortB 1000 x.g <;> cases shortB 1000 x.x <;> cases shortB 1000 x.p <;> cases shortB 1000 x.s <;> rfl
set_option maxHeartbeats 4000000 in
theorem rGood_any (va vw : Value) (x : Sp) (w : World) (ha : Sl w numC 1 va x.a) (hw : Sl w strC 1 vw x.w) (hla : x.a.length ≤ 1073741824) (hlw : x.w.length ≤ 1073741824) :
    Calls Tryz.prog 15 #[spV va vw x] w fun e w' => e = .returned (.bool (goodB x)) ∧ Below w.heap.size w w' := by
  have HQ := Lib.hid (good_short x)
  obtain ⟨Aa, ca, rfl, ha1, ha2, ha3, hAA⟩ := ha
  obtain ⟨Aw, cw, rfl, hc1, hc2, hn, hA⟩ := hw
  have HA := Lib.hid hA
  have HAA := Lib.hid hAA
  clear hA hn hAA ha3
  go_enter Tryz.func15, Tryz.ntmps15
  go_wp2
  have HB := Lib.hid (BoxN.new w [.slice Aa x.a.length ca, .slice Aw x.w.length cw, .string (B x.g), .string (B x.x), .string (B x.p), .string (B x.s)] 26)
  have HBE := Lib.hid (below_alloc (Below.refl w.heap.size w) (.cells #[.slice Aa x.a.length ca, .slice Aw x.w.length cw, .string (B x.g), .string (B x.x), .string (B x.p), .string (B x.s)] 26))
  generalize hW : w.alloc _ = W at *
  have HW := Lib.hid hW
  clear hW
  go_loopw [3] (fun v3 wr => ∃ k : Nat, k ≤ x.a.length ∧ v3 = .int .i64 k ∧ Hid (risesB 0 (x.a.take k) = true) ∧ Hid (Below W.heap.size W wr)) (fun i _ => x.a.length - (intOf i).toNat)
  case atStart => exact ⟨0, by omega, rfl, Lib.hid rfl, Lib.hid (Below.refl _ _)⟩
  case round =>
    obtain ⟨k, hk, rfl, HR, HBW⟩ := hrel
    have HB1 := Lib.hid (HB.out.below HBW.out)
    obtain ⟨⟨c0, c1, c2, c3, c4, c5⟩, -⟩ := box6 HB1.out
    haveI : Old wr w.heap.size := ⟨HB1.out.lt⟩
    have HBZ := Lib.hid (below_then HBE.out HBW.out)
    have k0 : (0 : Int) ≤ (k : Int) := by omega
    by_cases hlt : k < x.a.length
    · have k1 : (k : Int) < (x.a.length : Int) := by omega
      obtain ⟨b, off, rfl, hb, hcl⟩ := HAA.out (by omega)
      haveI : Old wr b := ⟨Nat.lt_of_lt_of_le hb HBZ.out.size⟩
      have hcell : ∀ j (hj : j < x.a.length), wr.cell? ⟨b, off + j, none⟩ = some (.int .i64 x.a[j]) := fun j hj => by
        have := (HBZ.out.cell (p := ⟨b, off + j * 1 + 0, none⟩) hb).trans (hcl j _ (List.getElem?_eq_getElem hj) 0 _ rfl)
        simpa using this
      have hc := hcell k hlt
      have HC := Lib.hid hcell
      have HT := Lib.hid (rises_take x.a 0 k hlt)
      rw [HR.out, Bool.true_and] at HT
      have HL := Lib.hid (rises_last HR.out)
      obtain ⟨y, hy⟩ : ∃ y, x.a[k] = y := ⟨_, rfl⟩
      rw [hy] at hc HT
      clear hcl hcell
      by_cases h1 : y < 1
      · have HN := Lib.hid (rises_no x.a 0 (k + 1) (by rw [HT.out, decide_eq_true (by have := HL.out; omega)]; rfl))
        have d1 := yes h1
        clear hy h1
        go_wp2
        go_quiet (fail)
        go_wp2
        go_ret
        exact ⟨by rw [HQ.out, HN.out]; rfl, by have := HBZ.out; (repeat (first | exact Below.refl _ _ | assumption | with_reducible refine below_alloc ?_ _ | with_reducible refine below_grow ?_ _ | with_reducible refine below_drewN ?_ _ | with_reducible refine below_drew ?_ | with_reducible refine below_setCell ?_ (by first | (dsimp only; omega) | (simp; done) | (simp; omega)) _))⟩
      by_cases h2 : 7 < y
      · have HN := Lib.hid (rises_no x.a 0 (k + 1) (by rw [HT.out, decide_eq_true h2]; simp))
        have d1 := no h1
        have d2 := yes h2
        clear hy h1 h2
        go_wp2
        go_quiet (fail)
        go_wp2
        go_ret
        exact ⟨by rw [HQ.out, HN.out]; rfl, by have := HBZ.out; (repeat (first | exact Below.refl _ _ | assumption | with_reducible refine below_alloc ?_ _ | with_reducible refine below_grow ?_ _ | with_reducible refine below_drewN ?_ _ | with_reducible refine below_drew ?_ | with_reducible refine below_setCell ?_ (by first | (dsimp only; omega) | (simp; done) | (simp; omega)) _))⟩
      have d1 := no h1
      have d2 := no h2
      rw [decide_eq_false h2] at HT
      by_cases h0 : k = 0
      · subst h0
        have HN := Lib.hid (show risesB 0 (x.a.take (0 + 1)) = true by rw [HT.out, decide_eq_false (by show ¬ y ≤ 0; omega)]; rfl)
        rw [Nat.add_zero] at hc
        clear hy h1 h2
        go_wp2
        go_quiet (fail)
        go_wp2
        exact ⟨⟨1, by omega, rfl, HN, Lib.hid (by have := HBW.out; (repeat (first | exact Below.refl _ _ | assumption | with_reducible refine below_alloc ?_ _ | with_reducible refine below_grow ?_ _ | with_reducible refine below_drewN ?_ _ | with_reducible refine below_drew ?_ | with_reducible refine below_setCell ?_ (by first | (dsimp only; omega) | (simp; done) | (simp; omega)) _)))⟩, by simp [intOf]; omega⟩
      · obtain ⟨j, rfl⟩ : ∃ j, k = j + 1 := ⟨k - 1, by omega⟩
        have hp := HC.out j (by omega)
        have HLS := Lib.hid (last_snoc 0 x.a j (by omega))
        obtain ⟨u, hu⟩ : ∃ u, x.a[j] = u := ⟨_, rfl⟩
        rw [hu] at hp HLS
        rw [HLS.out] at HT
        have d0 := yes (show (0 : Int) < (j : Int) + 1 by omega)
        have q0 : (0 : Int) ≤ (j : Int) + 1 := by omega
        have q1 : (j : Int) + 1 < (x.a.length : Int) := by omega
        have q2 : j + 1 < x.a.length := hlt
        have q3 : j < x.a.length := by omega
        have j0 : (0 : Int) ≤ (j : Int) := by omega
        have j1 : (j : Int) < (x.a.length : Int) := by omega
        clear h0 hy hu k0 k1 hlt
        by_cases h3 : y ≤ u
        · have d4 := yes h3
          rw [decide_eq_true h3] at HT
          have HN := Lib.hid (rises_no x.a 0 (j + 1 + 1) (by rw [HT.out]; rfl))
          clear h3 h1 h2
          go_wp2
          go_quiet (fail)
          go_wp2
          go_ret
          exact ⟨by rw [HQ.out, HN.out]; rfl, by have := HBZ.out; (repeat (first | exact Below.refl _ _ | assumption | with_reducible refine below_alloc ?_ _ | with_reducible refine below_grow ?_ _ | with_reducible refine below_drewN ?_ _ | with_reducible refine below_drew ?_ | with_reducible refine below_setCell ?_ (by first | (dsimp only; omega) | (simp; done) | (simp; omega)) _))⟩
        · have d4 := no h3
          rw [decide_eq_false h3] at HT
          clear h3 h1 h2
          go_wp2
          go_quiet (fail)
          go_wp2
          have HN2 := Lib.hid (show risesB 0 (x.a.take (j + 1 + 1)) = true by rw [HT.out]; rfl)
          exact ⟨⟨j + 1 + 1, by omega, by go_num, HN2, Lib.hid (by have := HBW.out; (repeat (first | exact Below.refl _ _ | assumption | with_reducible refine below_alloc ?_ _ | with_reducible refine below_grow ?_ _ | with_reducible refine below_drewN ?_ _ | with_reducible refine below_drew ?_ | with_reducible refine below_setCell ?_ (by first | (dsimp only; omega) | (simp; done) | (simp; omega)) _)))⟩, by simp [intOf]; omega⟩
    · have hr := HR.out
      rw [show k = x.a.length by omega, List.take_length] at hr
      have k1 : ¬ (k : Int) < (x.a.length : Int) := by omega
      rw [hr, Bool.true_and] at HQ
      clear hr HR hlt
      by_cases h0 : x.w.length ≤ 1000
      case neg =>
        have n0 : (1000 : Int) < (x.w.length : Int) := by omega
        rw [decide_eq_false h0] at HQ
        clear h0
        go_wp2
        go_ret
        exact ⟨by rw [HQ.out]; simp, HBZ.out⟩
      have n0 : ¬ (1000 : Int) < (x.w.length : Int) := by omega
      rw [decide_eq_true h0] at HQ
      clear h0
      by_cases h1 : x.g.length ≤ 1000
      case neg =>
        have n1 : (1000 : Int) < (x.g.length : Int) := by omega
        rw [(show shortB 1000 x.g = false from decide_eq_false h1)] at HQ
        clear h1
        go_wp2
        go_ret
        exact ⟨by rw [HQ.out]; simp, HBZ.out⟩
      have n1 : ¬ (1000 : Int) < (x.g.length : Int) := by omega
      rw [(show shortB 1000 x.g = true from decide_eq_true h1)] at HQ
      clear h1
      by_cases h2 : x.x.length ≤ 1000
      case neg =>
        have n2 : (1000 : Int) < (x.x.length : Int) := by omega
        rw [(show shortB 1000 x.x = false from decide_eq_false h2)] at HQ
        clear h2
        go_wp2
        go_ret
        exact ⟨by rw [HQ.out]; simp, HBZ.out⟩
      have n2 : ¬ (1000 : Int) < (x.x.length : Int) := by omega
      rw [(show shortB 1000 x.x = true from decide_eq_true h2)] at HQ
      clear h2
      by_cases h3 : x.p.length ≤ 1000
      case neg =>
        have n3 : (1000 : Int) < (x.p.length : Int) := by omega
        rw [(show shortB 1000 x.p = false from decide_eq_false h3)] at HQ
        clear h3
        go_wp2
        go_ret
        exact ⟨by rw [HQ.out]; simp, HBZ.out⟩
      have n3 : ¬ (1000 : Int) < (x.p.length : Int) := by omega
      rw [(show shortB 1000 x.p = true from decide_eq_true h3)] at HQ
      clear h3
      by_cases h4 : x.s.length ≤ 1000
      case neg =>
        have n4 : (1000 : Int) < (x.s.length : Int) := by omega
        rw [(show shortB 1000 x.s = false from decide_eq_false h4)] at HQ
        clear h4
        go_wp2
        go_ret
        exact ⟨by rw [HQ.out]; simp, HBZ.out⟩
      have n4 : ¬ (1000 : Int) < (x.s.length : Int) := by omega
      rw [(show shortB 1000 x.s = true from decide_eq_true h4)] at HQ
      clear h4
      go_wp2
      obtain ⟨W1, rfl⟩ : ∃ W1, W1 = wr := ⟨_, rfl⟩
      go_loopw [4] (fun v3 wr => ∃ k : Nat, k ≤ x.w.length ∧ v3 = .int .i64 k ∧ Hid ((x.w.take k).all (shortB 1000) = true) ∧ W1 = wr) (fun i _ => x.w.length - (intOf i).toNat)
      case atStart => exact ⟨0, by omega, rfl, Lib.hid rfl, rfl⟩
      case round =>
        obtain ⟨k, hk, rfl, HR, rfl⟩ := hrel
        have k0 : (0 : Int) ≤ (k : Int) := by omega
        by_cases hlt : k < x.w.length
        · have k1 : (k : Int) < (x.w.length : Int) := by omega
          obtain ⟨b, off, rfl, hb, hcl⟩ := HA.out (by omega)
          obtain ⟨t, ht⟩ : ∃ t, x.w[k]? = some t := ⟨_, List.getElem?_eq_getElem hlt⟩
          have hc : W1.cell? ⟨b, off + k, none⟩ = some (.string (B t)) := by
            have := (HBZ.out.cell (p := ⟨b, off + k * 1 + 0, none⟩) hb).trans (hcl k _ ht 0 _ rfl)
            simpa using this
          have HT := Lib.hid (all_take (shortB 1000) ht)
          rw [HR.out, Bool.true_and] at HT
          clear hcl ht
          by_cases hs : t.length ≤ 1000
          · have n9 : ¬ (1000 : Int) < (t.length : Int) := by omega
            rw [show shortB 1000 t = true from decide_eq_true hs] at HT
            clear hs
            go_wp2
            exact ⟨⟨k + 1, by omega, by go_num, HT, trivial⟩, by simp [intOf]; omega⟩
          · have n9 : (1000 : Int) < (t.length : Int) := by omega
            rw [show shortB 1000 t = false from decide_eq_false hs] at HT
            have HN := Lib.hid (all_no (shortB 1000) HT.out)
            clear hs
            go_wp2
            go_ret
            exact ⟨by rw [HQ.out, HN.out]; simp, HBZ.out⟩
        · have hr := HR.out
          rw [show k = x.w.length by omega, List.take_length] at hr
          have HR2 := Lib.hid hr
          have k1 : ¬ (k : Int) < (x.w.length : Int) := by omega
          clear hr
          go_wp2
          go_ret
          exact ⟨by rw [HQ.out, HR2.out]; rfl, HBZ.out⟩
end Go.Proofs.YtadaeecokkokjaaGreat.Spc
