/-
  The walk of the law QuotingLines: it returns true, whatever its arguments. Conditions: the library's variable MaxLen holds some number (arguments as the row reads them).
-/
import Derived.Test.YtljinmfkogmmlaaDoorLineW
import Derived.Test.YtljinmfkogmmlaaDoorOpen
namespace Go.Proofs.YtljinmfkogmmlaaDoor.quotingLines
open Go.ChangeShapes Go.WideShapes Go.Deep Go.ChangeAt Go.RowKit Quo Pat Md Mc Li Pa
set_option linter.unusedSimpArgs false
set_option linter.unusedVariables false
set_option maxRecDepth 100000
theorem str_cells : Tryd.prog.cellsOf 9 = 1 := by kernel_rfl
theorem str_dec {H : Type} {enc : TypeId × Value → H} {w : World} {fuel : Nat} {cs : List Value} {d : DataW H × List MemPlace}
    (h : DataW.trod enc Tryd.prog w 0 (fun _ => true) true fuel 9 cs = some d) : ∃ x : List UInt8, cs = strC x ∧ x.length ≤ 9223372036854775807 := by
  obtain ⟨s1, e1, _, w1⟩ := DataW.trod_string Tryd.underlying9 h
  obtain ⟨a, rfl⟩ := B_all s1
  rw [B_size] at w1
  exact ⟨a, e1, w1⟩
theorem open_strs {H : Type} {enc : TypeId × Value → H} {w : World} {base : Nat} {d : DataW H} {p : List MemPlace} {v : Value}
    (h : DataW.Trod enc Tryd.prog w 0 (fun _ => true) true 29 v d p) (k : Value.okWide Tryd.prog w .any base 29 v) : ∃ xs, Sl w strC 1 v xs ∧ xs.length ≤ 9223372036854775807 := by
  obtain ⟨xs, h1, _, h3⟩ := open_sl strC (fun x => x.length ≤ 9223372036854775807) Tryd.underlying29 str_cells (by omega) str_dec h k
  exact ⟨xs, h1, h3⟩
theorem joinB_snoc : ∀ (xs : List (List UInt8)) (x : List UInt8), joinB (xs ++ [x]) = if xs = [] then x else joinB xs ++ 32 :: x
  | [], x => rfl
  | [a], x => rfl
  | a :: b :: r, x => by
    have ih := joinB_snoc (b :: r) x
    rw [if_neg (by simp)] at ih
    rw [if_neg (by simp), List.cons_append, List.cons_append, joinB_cons, ← List.cons_append, ih, joinB_cons]
    simp
theorem walk {H : Type} (enc : TypeId × Value → H) (w : World) (base : Nat) {v0 : Value} {d0 : DataW H} {p0 : List MemPlace} (hm : MaxL w)
    (h0 : DataW.Trod enc Tryd.prog w 0 (fun _ => true) true 29 v0 d0 p0) (k0 : Value.okWide Tryd.prog w .any base 29 v0) :
    Calls Tryd.prog 4 #[v0] w fun e w' => e = .returned (.bool true) ∧ Below w.heap.size w w' := by
  obtain ⟨l, hv, hll⟩ := open_strs h0 k0
  clear h0 k0
  have HV := Lib.hid hv
  have HM := Lib.hid hm
  obtain ⟨A, c, rfl, hc1, hc2, hn, hA⟩ := hv
  have HA := Lib.hid hA
  clear hA hn
  have HAW := Lib.hid (awake17_any w hm)
  clear hm
  by_cases l1 : 10 < l.length
  · go_enter Tryd.func4, Tryd.ntmps4
    go_wp2_with (go_at_call 5; refine HAW.out.mono ?_; rintro e w1 ⟨rfl, hb⟩; have HB := Lib.hid hb; clear hb)
    go_ret
    exact ⟨rfl, HB.out⟩
  have g1 := no (show ¬ (10 : Int) < (l.length : Int) by omega)
  have hl10 : l.length ≤ 10 := by omega
  clear l1
  go_enter Tryd.func4, Tryd.ntmps4
  go_wp2_with (go_at_call 5; refine HAW.out.mono ?_; rintro e w1 ⟨rfl, hb⟩; have HB := Lib.hid hb; clear hb)
  rw [show ({ data := #[] } : ByteArray) = B (joinB ((l.take 0).map shortL)) from rfl]
  go_loopw [3, 4] (fun t i wr => ∃ k : Nat, k ≤ l.length ∧ i = .int .i64 k ∧ t = .string (B (joinB ((l.take k).map shortL))) ∧ Hid (∀ s ∈ l.take k, s.length ≤ 30) ∧ Hid (Below w.heap.size w wr)) (fun _ i _ => l.length - (intOf i).toNat)
  case atStart => exact ⟨0, by omega, rfl, rfl, Lib.hid (by simp), HB⟩
  case round =>
    clear HB
    obtain ⟨k, hk, rfl, rfl, HT, HB⟩ := hrel
    by_cases hlt : k < l.length
    · have q0 : (0 : Int) ≤ (k : Int) := by omega
      have q1 : (k : Int) < (l.length : Int) := by omega
      obtain ⟨b, off, rfl, hb, hcl⟩ := HA.out (by omega)
      have e0 : wr.cell? ⟨b, off + k, none⟩ = some (.string (B l[k])) := by
        have := (HB.out.cell (p := ⟨b, off + k * 1 + 0, none⟩) hb).trans (hcl k _ (List.getElem?_eq_getElem hlt) 0 _ rfl)
        simpa using this
      haveI : Old wr b := ⟨Nat.lt_of_lt_of_le hb HB.out.size⟩
      clear hcl
      by_cases h30 : 30 < l[k].length
      · have q2 : (30 : Int) < (l[k].length : Int) := by omega
        go_wp2
        go_ret
        exact ⟨rfl, HB.out⟩
      have q2 : ¬ (30 : Int) < (l[k].length : Int) := by omega
      have HS := Lib.hid fun W => refShortest_any l[k] W (by omega)
      have HX := Lib.hid (show joinB ((l.take (k + 1)).map shortL) = if (l.take k).map shortL = [] then shortL l[k] else joinB ((l.take k).map shortL) ++ 32 :: shortL l[k] by
        rw [List.take_succ_eq_append_getElem hlt, List.map_append]
        exact joinB_snoc _ _)
      have HT2 := Lib.hid (show ∀ s ∈ l.take (k + 1), s.length ≤ 30 by
        rw [List.take_succ_eq_append_getElem hlt]
        intro s hs
        rcases List.mem_append.1 hs with h | h
        · exact HT.out s h
        · rw [List.mem_singleton] at h; subst h; omega)
      have hsl := short_len l[k]
      have hjl := lineL_len (l.take k) 30 HT.out
      have htk : (l.take k).length ≤ 10 := by rw [List.length_take]; omega
      have hmul : (l.take k).length * (4 * 30 + 5) ≤ 10 * 125 := Nat.mul_le_mul htk (by omega)
      have hjl2 : (joinB ((l.take k).map shortL)).length ≤ 1250 := Nat.le_trans hjl hmul
      have hsq : (shortL l[k]).length ≤ 124 := by omega
      have hs1 : ¬ 9223372036854775807 < (joinB ((l.take k).map shortL)).length + (shortL l[k]).length := by omega
      have hs2 : ¬ 9223372036854775807 < (joinB ((l.take k).map shortL)).length + 1 := by omega
      have hs3 : ¬ 9223372036854775807 < (joinB ((l.take k).map shortL)).length + 1 + (shortL l[k]).length := by omega
      clear hsl hjl hmul htk
      rcases Nat.eq_zero_or_pos k with rfl | hk0
      · rw [if_pos (by simp)] at HX
        generalize shortL l[0] = q at *
        rw [Nat.add_zero] at e0
        simp only [List.take_zero, List.map_nil] at hs1 hs2 hs3 ⊢
        go_wp2_with (go_at_call 9; refine (HS.out _).mono ?_; rintro e w' ⟨rfl, rfl⟩)
        refine ⟨⟨1, by omega, rfl, ?_, HT2, HB⟩, by simp [intOf]; omega⟩
        rw [HX.out]
        simp [joinB]
      · have q3 : (0 : Int) < (k : Int) := by omega
        rw [if_neg (by
          intro e
          have := congrArg List.length e
          rw [List.length_map, List.length_take, List.length_nil] at this
          omega)] at HX
        generalize shortL l[k] = q at *
        generalize joinB ((l.take k).map shortL) = t0 at *
        go_wp2_with (go_at_call 9; refine (HS.out _).mono ?_; rintro e w' ⟨rfl, rfl⟩)
        exact ⟨⟨k + 1, by omega, by go_num, by rw [HX.out], HT2, HB⟩, by simp [intOf]; omega⟩
    · have hk' : k = l.length := by omega
      subst hk'
      rw [List.take_length] at HT ⊢
      have q1 : ¬ (l.length : Int) < (l.length : Int) := by omega
      have hln := lineL_len l 30 HT.out
      have hmul : l.length * (4 * 30 + 5) ≤ 10 * 125 := Nat.mul_le_mul hl10 (by omega)
      have HLI := Lib.hid (line_any l (.slice A l.length c) wr (HV.out.below HB.out) (HM.out.below HB.out) (by omega) (fun s hs => Nat.le_trans (HT.out s hs) (by omega)))
      have HSP := Lib.hid fun W => split_any (lineL l) W (by omega)
      have HSL := Lib.hid (split_lineL l)
      rw [show joinB (l.map shortL) = lineL l from rfl]
      generalize lineL l = ln at *
      clear hlt hk hln hmul
      go_wp2_with (first
        | (go_at_call 10; refine HLI.out.mono ?_; rintro e w2 ⟨rfl, hb2⟩; have HB2 := Lib.hid (below_then HB.out hb2); clear hb2)
        | (go_at_call 11; refine (HSP.out _).mono ?_; rintro e w3 ⟨v3, he3, ho3, hz3, hb3⟩; rw [HSL.out] at he3 ho3; obtain ⟨A3, c3, rfl, hA3⟩ := ho3.form0; subst he3; have HA3 := Lib.hid hA3; have HO3 := Lib.hid ho3; have HB3 := Lib.hid (below_then HB2.out hb3); clear hb3 hz3 ho3 hA3; dsimp only))
      go_loopw [9] (fun i w4 => ∃ k : Nat, k ≤ l.length ∧ i = .int .i64 k ∧ Hid (Own w4 w2.heap.size 1 (.slice A3 l.length c3) l.length (l.flatMap strC)) ∧ Hid (Below w.heap.size w w4)) (fun i _ => l.length - (intOf i).toNat)
      case atStart => exact ⟨0, by omega, rfl, HO3, HB3⟩
      case round =>
        clear HO3 HB3
        obtain ⟨k, hk, rfl, HO, HB4⟩ := hrel
        by_cases hlt : k < l.length
        · have q0 : (0 : Int) ≤ (k : Int) := by omega
          have q1 : (k : Int) < (l.length : Int) := by omega
          obtain ⟨b, off, rfl, hb, hcl⟩ := HA.out (by omega)
          obtain ⟨g3, o3, rfl⟩ := HA3.out (by omega)
          have e0 : wr.cell? ⟨b, off + k, none⟩ = some (.string (B l[k])) := by
            have := (HB4.out.cell (p := ⟨b, off + k * 1 + 0, none⟩) hb).trans (hcl k _ (List.getElem?_eq_getElem hlt) 0 _ rfl)
            simpa using this
          have e1 : wr.cell? ⟨g3, o3 + k, none⟩ = some (.string (B l[k])) := by
            have := (own_get HO.out strC_len rfl (by omega) (List.getElem?_eq_getElem hlt) (j := 0) rfl).1
            simpa using this
          clear hcl
          go_wp2
          go_quiet (fail)
          go_wp2
          exact ⟨⟨k + 1, by omega, by go_num, Lib.hid (HO.out.below (below_drewN (Below.refl _ _) _)), Lib.hid (below_drewN HB4.out _)⟩, by simp [intOf]; omega⟩
        · have q1 : ¬ (k : Int) < (l.length : Int) := by omega
          go_wp2
          go_ret
          exact ⟨rfl, HB4.out⟩
end Go.Proofs.YtljinmfkogmmlaaDoor.quotingLines
