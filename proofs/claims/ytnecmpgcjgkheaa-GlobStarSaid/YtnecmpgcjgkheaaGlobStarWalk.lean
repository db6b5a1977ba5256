/-
  The walk of the law GlobStar: it returns true, whatever its arguments. Conditions: the library's variable MaxLen holds some number (arguments as the row reads them).
-/
import Derived.Test.YtnecmpgcjgkheaaFlOpen
set_option linter.unusedSimpArgs false
set_option linter.unusedVariables false
namespace Go.Proofs.Ytnecmpgcjgkheaa.globStar
open Go.ChangeShapes Go.WideShapes Go.Deep Go.ChangeAt Go.RowKit Fil Pat Glob
set_option maxRecDepth 100000
theorem filter_at {α : Type} (q : α → Bool) {l : List α} {k : Nat} {s : α} (h : l[k]? = some s) (hq : q s = true) : (l.filter q)[((l.take k).filter q).length]? = some s := by
  obtain ⟨hk, e⟩ := List.getElem?_eq_some_iff.1 h
  conv => lhs; arg 1; rw [← List.take_append_drop k l, List.filter_append, List.drop_eq_getElem_cons hk, e, List.filter_cons, if_pos hq]
  rw [List.getElem?_append_right (Nat.le_refl _), Nat.sub_self]
  rfl
theorem filter_next {α : Type} (q : α → Bool) {l : List α} {k : Nat} {s : α} (h : l[k]? = some s) : ((l.take (k + 1)).filter q).length = ((l.take k).filter q).length + if q s = true then 1 else 0 := by
  rw [List.take_add_one, h, List.filter_append, List.length_append]
  cases hq : q s <;> simp [hq]
/-- How far the rows of two kinds are. -/
structure Cnt {α : Type} (q : α → Bool) (N L : List α) (c : Nat → Nat) : Prop where
  z : c 0 = 0
  y : ∀ k s, N[k]? = some s → q s = true → L[c k]? = some s ∧ c (k + 1) = c k + 1
  n : ∀ k s, N[k]? = some s → q s = false → c (k + 1) = c k
  e : c N.length = L.length
  l : L.length ≤ N.length
theorem cnt {α : Type} (q : α → Bool) (N : List α) : Cnt q N (N.filter q) (fun k => ((N.take k).filter q).length) :=
  ⟨by simp, fun k s h hq => ⟨filter_at q h hq, by have := filter_next q h; rw [if_pos hq] at this; exact this⟩, fun k s h hq => by have := filter_next q h; rw [if_neg (by rw [hq]; decide)] at this; exact this, by simp, List.length_filter_le _ _⟩
set_option maxHeartbeats 6400000 in
theorem walk {H : Type} (enc : TypeId × Value → H) (w : World) (base : Nat) {v0 v1 : Value} {d0 d1 : DataW H} {p0 p1 : List MemPlace} (hm : MaxL w)
    (h0 : DataW.Trod enc Try.prog w 0 (fun _ => true) true 27 v0 d0 p0) (k0 : Value.okWide Try.prog w .any base 27 v0)
    (h1 : DataW.Trod enc Try.prog w 0 (fun _ => true) true 9 v1 d1 p1) (k1 : Value.okWide Try.prog w .any base 9 v1) :
    Calls Try.prog 5 #[v0, v1] w fun e w' => e = .returned (.bool true) ∧ Below w.heap.size w w' := by
  obtain ⟨l, hv, -, hxl⟩ := open_sl flC FlOk Try.underlying27 fl_cells (by omega) fl_dec h0 k0
  obtain ⟨dir, rfl, hs1⟩ := open_text h1 k1
  clear h0 k0 h1 k1
  have HAW := Lib.hid (awake27_any w hm)
  have HV := Lib.hid hv
  have HM := Lib.hid hm
  have HFE := Lib.hid fun W (hW : Below w.heap.size w W) => few_any l v0 W (hv.below hW)
  by_cases l1 : fewB l = true ∧ dir.length ≤ 100 ∧ pathB dir = true
  rotate_left
  · cases hf : fewB l with
    | false =>
      rw [hf] at HFE
      go_enter Try.func5, Try.ntmps5
      go_wp2_with (first
        | (go_at_call 6; refine HAW.out.mono ?_; rintro e w1 ⟨rfl, hb⟩; have HB1 := Lib.hid hb; clear hb)
        | (go_at_call 10; refine (HFE.out _ HB1.out).mono ?_; rintro e w2 ⟨rfl, hb⟩; have HB2 := Lib.hid (below_then HB1.out hb); clear hb))
      go_ret
      exact ⟨rfl, HB2.out⟩
    | true =>
      rw [hf] at HFE
      by_cases l2 : 100 < dir.length
      · have d1 : decide ((100 : Int) < (dir.length : Int)) = true := decide_eq_true (by omega)
        go_enter Try.func5, Try.ntmps5
        go_wp2_with (first
          | (go_at_call 6; refine HAW.out.mono ?_; rintro e w1 ⟨rfl, hb⟩; have HB1 := Lib.hid hb; clear hb)
          | (go_at_call 10; refine (HFE.out _ HB1.out).mono ?_; rintro e w2 ⟨rfl, hb⟩; have HB2 := Lib.hid (below_then HB1.out hb); clear hb))
        go_ret
        exact ⟨rfl, HB2.out⟩
      · have d1 := no (show ¬ (100 : Int) < (dir.length : Int) by omega)
        have hpd : pathB dir = false := by
          cases e : pathB dir with
          | false => rfl
          | true => exact absurd ⟨hf, by omega, e⟩ l1
        have HIP := Lib.hid fun W => refIsPath_any dir W (by omega)
        rw [hpd] at HIP
        go_enter Try.func5, Try.ntmps5
        go_wp2_with (first
          | (go_at_call 6; refine HAW.out.mono ?_; rintro e w1 ⟨rfl, hb⟩; have HB1 := Lib.hid hb; clear hb)
          | (go_at_call 10; refine (HFE.out _ HB1.out).mono ?_; rintro e w2 ⟨rfl, hb⟩; have HB2 := Lib.hid (below_then HB1.out hb); clear hb)
          | (go_at_call 15; refine (HIP.out _).mono ?_; rintro e w3 ⟨rfl, hb⟩; have HB3 := Lib.hid (below_then HB2.out hb); clear hb))
        go_ret
        exact ⟨rfl, HB3.out⟩
  obtain ⟨hf, l2, hpd⟩ := l1
  rw [hf] at HFE
  have d1 := no (show ¬ (100 : Int) < (dir.length : Int) by omega)
  unfold fewB at hf
  rw [Bool.and_eq_true, decide_eq_true_eq, List.all_eq_true] at hf
  obtain ⟨hl20, hfl⟩ := hf
  have HIP := Lib.hid fun W => refIsPath_any dir W (by omega)
  rw [hpd] at HIP
  have HOF := Lib.hid fun W (hW : Below w.heap.size w W) => of_any l v0 W (hv.below hW) (hm.below hW) (by omega) (fun f hf => by have := of_decide_eq_true (hfl f hf); omega)
  unfold OfP at HOF
  have hol := ofF_len l.length l
  have hom := ofF_mem l.length l
  rw [List.take_length] at hol hom
  have HXL := Lib.hid (show ∀ f ∈ ofF l, f.path.length ≤ 100 from fun f hf => of_decide_eq_true (hfl f (hom f hf)))
  have HX := Lib.hid (show (ofF l).length ≤ 20 by omega)
  clear hol hom hfl hv hm hxl
  generalize ofF l = x at *
  have HG1 := Lib.hid fun W (hW : Below w.heap.size w W) (b0 tb : Nat) nb mp (h : TreeAt W b0 tb x nb mp) => (show Calls Try.prog 12 #[.pointer (some ⟨tb, 0, none⟩), .string (B dir), .string (B [42])] W (StrP ((liL x dir).filter fun a => !(a.head? == some 46)) W) by
    have := globPaths_any W b0 tb x nb mp dir [42] h (HM.out.below hW) (by simp) (by omega) (by have := HX.out; omega) (fun f hf => by have := HXL.out f hf; omega) (globG_len h.ok HX.out (by simp))
    rwa [paths_star h.ok hpd] at this)
  have HG2 := Lib.hid fun W (hW : Below w.heap.size w W) (b0 tb : Nat) nb mp (h : TreeAt W b0 tb x nb mp) => (show Calls Try.prog 12 #[.pointer (some ⟨tb, 0, none⟩), .string (B dir), .string (B [46, 42])] W (StrP ((liL x dir).filter fun a => a.head? == some 46) W) by
    have := globPaths_any W b0 tb x nb mp dir [46, 42] h (HM.out.below hW) (by simp) (by omega) (by have := HX.out; omega) (fun f hf => by have := HXL.out f hf; omega) (globG_len h.ok HX.out (by simp))
    rwa [paths_dot h.ok hpd] at this)
  have HLI := Lib.hid fun W (hW : Below w.heap.size w W) (b0 tb : Nat) nb mp (h : TreeAt W b0 tb x nb mp) => list_any W b0 tb x nb mp dir h (HM.out.below hW) (by omega) (by have := HX.out; omega)
  unfold ListP at HLI
  have HNE := Lib.hid fun (W : World) (b0 tb : Nat) nb mp (h : TreeAt W b0 tb x nb mp) (a : List UInt8) (ha : a ∈ liL x dir) => (name_no (li_path h.ok ha).1).2.1
  generalize liL x dir = N at *
  generalize liN x dir = z at *
  clear hpd
  go_enter Try.func5, Try.ntmps5
  go_wp2_with (first
    | (go_at_call 6; refine HAW.out.mono ?_; rintro e w1 ⟨rfl, hb⟩; have HB1 := Lib.hid hb; clear hb)
    | (go_at_call 10; refine (HFE.out _ HB1.out).mono ?_; rintro e w2 ⟨rfl, hb⟩; have HB2 := Lib.hid (below_then HB1.out hb); clear hb)
    | (go_at_call 15; refine (HIP.out _).mono ?_; rintro e w3 ⟨rfl, hb⟩; have HB3 := Lib.hid (below_then HB2.out hb); clear hb)
    | (go_at_call 11; (with_reducible refine (HOF.out _ HB3.out).mono ?_); rintro e w4 ⟨rfl, ⟨nb, mp, ht⟩, hb⟩; have HT := Lib.hid ht; have HB4 := Lib.hid (below_then HB3.out hb); clear ht hb)
    | (go_at_call 12; (with_reducible refine (HG1.out _ HB4.out _ _ nb mp HT.out).mono ?_); rintro e w5 ⟨va, rfl, ho, hb⟩; have HOA := Lib.hid ho; have HT5 := Lib.hid (HT.out.below hb); have HB5 := Lib.hid (below_then HB4.out hb); clear ho hb)
    | (go_at_call 12; (with_reducible refine (HG2.out _ HB5.out _ _ nb mp HT5.out).mono ?_); rintro e w6 ⟨vb, rfl, ho, hb⟩; have HOB := Lib.hid ho; have HOA6 := Lib.hid (HOA.out.below hb); have HT6 := Lib.hid (HT5.out.below hb); have HB6 := Lib.hid (below_then HB5.out hb); clear ho hb)
    | (go_at_call 16; (with_reducible refine (HLI.out _ HB6.out _ _ nb mp HT6.out).mono ?_); rintro e w7 ⟨vn, rfl, ho, hb⟩; have HON := Lib.hid ho; have HOB7 := Lib.hid (HOB.out.below hb); have HOA7 := Lib.hid (HOA6.out.below hb); have HT7 := Lib.hid (HT6.out.below hb); have HB7 := Lib.hid (below_then HB6.out hb); clear ho hb))
  have HNM := Lib.hid (HNE.out _ _ _ nb mp HT7.out)
  clear HNE HLI HG1 HG2 HOF HFE HAW HIP HX HXL HT HT5 HT6 HT7 HOA HOA6 HOB
  have CA := Lib.hid (cnt (fun a : List UInt8 => !(a.head? == some 46)) N)
  have CB := Lib.hid (cnt (fun a : List UInt8 => a.head? == some 46) N)
  generalize (fun k => ((N.take k).filter fun a : List UInt8 => !(a.head? == some 46)).length) = cA at CA
  generalize (fun k => ((N.take k).filter fun a : List UInt8 => a.head? == some 46).length) = cB at CB
  generalize (N.filter fun a : List UInt8 => !(a.head? == some 46)) = LA at *
  generalize (N.filter fun a : List UInt8 => a.head? == some 46) = LB at *
  obtain ⟨A1, c1, rfl, hA1⟩ := HOA7.out.form0
  obtain ⟨A2, c2, rfl, hA2⟩ := HOB7.out.form0
  obtain ⟨A3, c3, rfl, hA3⟩ := HON.out.form0
  have HA1 := Lib.hid hA1
  have HA2 := Lib.hid hA2
  have HA3 := Lib.hid hA3
  clear hA1 hA2 hA3
  have HN := Lib.hid (show N.length ≤ 9223372036854775807 by
    rcases Nat.eq_zero_or_pos N.length with h0 | h0
    · omega
    · obtain ⟨_, _, _, _, _, _, q1, q2⟩ := HON.out.form' h0
      omega)
  go_loopw [10, 11, 12] (fun n m i W => ∃ k : Nat, k ≤ N.length ∧ i = .int .i64 k ∧ n = .int .i64 (cA k) ∧ m = .int .i64 (cB k) ∧ Hid (cA k ≤ k ∧ cB k ≤ k) ∧ Hid (Below w7.heap.size w7 W)) (fun _ _ i _ => N.length - (intOf i).toNat)
  case atStart => exact ⟨0, by omega, rfl, by rw [CA.out.z]; rfl, by rw [CB.out.z]; rfl, ⟨by rw [CA.out.z]; omega, by rw [CB.out.z]; omega⟩, Below.refl _ _⟩
  case round =>
    obtain ⟨k, hk, rfl, rfl, rfl, HC, HB⟩ := hrel
    by_cases hlt : k < N.length
    rotate_left
    · have hk2 : k = N.length := by omega
      subst hk2
      have d0 := no hlt
      have e1 : ((cA N.length : Int) == (LA.length : Int)) = true := by rw [CA.out.e]; simp
      have e2 : ((cB N.length : Int) == (LB.length : Int)) = true := by rw [CB.out.e]; simp
      go_wp2
      go_ret
      exact ⟨rfl, below_then HB7.out HB.out⟩
    obtain ⟨g, off, rfl⟩ := HA3.out (by omega)
    obtain ⟨s, hs⟩ := get_some hlt
    obtain ⟨-, hg2, e0⟩ := Glob.own_str HON.out hs
    have e0 := (HB.out.cell (p := ⟨g, off + k, none⟩) hg2).trans e0
    haveI : Old wr g := ⟨World.block_lt_of_cell? _ _ e0⟩
    have k0 : (0 : Int) ≤ (k : Int) := by omega
    have k1 : (k : Int) < (N.length : Int) := by omega
    obtain ⟨c, r, rfl⟩ : ∃ c r, s = c :: r := by
      cases s with
      | nil => exact absurd rfl (HNM.out _ (List.mem_of_getElem? hs))
      | cons c r => exact ⟨c, r, rfl⟩
    have hkA := HC.out.1
    have hkB := HC.out.2
    by_cases hc : c = 46
    · obtain ⟨b1, b2⟩ := CB.out.y k _ hs (by rw [hc]; rfl)
      have a1 := CA.out.n k _ hs (by rw [hc]; rfl)
      have hlb : cB k < LB.length := (List.getElem?_eq_some_iff.1 b1).1
      obtain ⟨g2, off2, rfl⟩ := HA2.out (by omega)
      obtain ⟨-, hg3, e1⟩ := Glob.own_str HOB7.out b1
      have e1 := (HB.out.cell (p := ⟨g2, off2 + cB k, none⟩) hg3).trans e1
      haveI : Old wr g2 := ⟨World.block_lt_of_cell? _ _ e1⟩
      have m0 : (0 : Int) ≤ (cB k : Int) := by omega
      have m1 : (cB k : Int) < (LB.length : Int) := by omega
      have m2 := no (show ¬ (LB.length : Int) ≤ (cB k : Int) by omega)
      have m3 := no (show ¬ LB.length ≤ cB k by omega)
      have t1 := is_b (n := 46) rfl hc
      have t2 : ((c.toNat : Int) = 46) := by rw [hc]; rfl
      have HX := Lib.hid (And.intro a1 b2)
      have hN := HN.out
      clear hc a1 b2 hs b1
      generalize cB k = m at *
      generalize cA k = n at *
      go_wp2_with fail
      (refine wp_region_grow (by kernel_rfl) (by kernel_rfl) ?_; (repeat (go_big_quiet_step (fail))); refine wpQuiet_nil ?_; intro _ hw'; obtain ⟨gq, hw''⟩ := hw'; subst hw'')
      go_wp2_with fail
      go_roundw
      case rel => exact ⟨k + 1, by omega, by go_num, by rw [HX.out.1], by rw [HX.out.2]; go_num, ⟨by rw [HX.out.1]; omega, by rw [HX.out.2]; omega⟩, below_then HB.out (grow_below _ _)⟩
      case measure => simp [intOf]; omega
    · obtain ⟨b1, b2⟩ := CA.out.y k _ hs (by simp [hc])
      have a1 := CB.out.n k _ hs (by simp [hc])
      have hlb : cA k < LA.length := (List.getElem?_eq_some_iff.1 b1).1
      obtain ⟨g2, off2, rfl⟩ := HA1.out (by omega)
      obtain ⟨-, hg3, e1⟩ := Glob.own_str HOA7.out b1
      have e1 := (HB.out.cell (p := ⟨g2, off2 + cA k, none⟩) hg3).trans e1
      haveI : Old wr g2 := ⟨World.block_lt_of_cell? _ _ e1⟩
      have m0 : (0 : Int) ≤ (cA k : Int) := by omega
      have m1 : (cA k : Int) < (LA.length : Int) := by omega
      have m2 := no (show ¬ (LA.length : Int) ≤ (cA k : Int) by omega)
      have m3 := no (show ¬ LA.length ≤ cA k by omega)
      have t1 := not_b (n := 46) rfl hc
      have t2 : ¬ ((c.toNat : Int) = 46) := by simpa using t1
      have HX := Lib.hid (And.intro a1 b2)
      have hN := HN.out
      clear hc a1 b2 hs b1
      generalize cB k = m at *
      generalize cA k = n at *
      go_wp2_with fail
      (refine wp_region_grow (by kernel_rfl) (by kernel_rfl) ?_; (repeat (go_big_quiet_step (fail))); refine wpQuiet_nil ?_; intro _ hw'; obtain ⟨gq, hw''⟩ := hw'; subst hw'')
      go_wp2_with fail
      go_roundw
      case rel => exact ⟨k + 1, by omega, by go_num, by rw [HX.out.2]; go_num, by rw [HX.out.1], ⟨by rw [HX.out.2]; omega, by rw [HX.out.1]; omega⟩, below_then HB.out (grow_below _ _)⟩
      case measure => simp [intOf]; omega
end Go.Proofs.Ytnecmpgcjgkheaa.globStar
