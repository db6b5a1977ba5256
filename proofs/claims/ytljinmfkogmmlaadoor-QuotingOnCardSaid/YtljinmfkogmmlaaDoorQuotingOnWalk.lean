/-
  The walk of the law QuotingOn: it returns true, whatever its arguments. Conditions: the library's variable MaxLen holds some number (arguments as the row reads them).
-/
import Derived.Test.YtljinmfkogmmlaaDoorLitOn
import Derived.Test.YtljinmfkogmmlaaDoorQuoA
import Derived.Test.YtljinmfkogmmlaaDoorOpen
import Derived.Test.YtljinmfkogmmlaaDoorRefA
import Derived.Test.YtljinmfkogmmlaaDoorRefOfA
namespace Go.Proofs.YtljinmfkogmmlaaDoor.quotingOn
open Go.ChangeShapes Go.WideShapes Go.Deep Go.ChangeAt Go.RowKit Quo Pat Md Mc Li Pa
set_option linter.unusedSimpArgs false
set_option linter.unusedVariables false
set_option maxRecDepth 100000
theorem byt_cells : Tryd.prog.cellsOf 5 = 1 := by kernel_rfl
theorem byt_dec {H : Type} {enc : TypeId × Value → H} {w : World} {fuel : Nat} {cs : List Value} {d : DataW H × List MemPlace}
    (h : DataW.trod enc Tryd.prog w 0 (fun _ => true) true fuel 5 cs = some d) : ∃ x : UInt8, cs = bytC x ∧ True := by
  obtain ⟨q, e, _, h1⟩ := DataW.trod_int Tryd.underlying5 h
  have hq : 0 ≤ q ∧ q ≤ 255 := by simpa using bounds_u8 h1
  have hn : (UInt8.ofNat q.toNat).toNat = q.toNat := by rw [UInt8.toNat_ofNat']; omega
  refine ⟨UInt8.ofNat q.toNat, ?_, trivial⟩
  rw [e]
  unfold bytC
  rw [hn, Int.toNat_of_nonneg hq.1]
/-- The parts of a calm text: none. -/
theorem of_calm {t : List UInt8} (h : calm t) (hl : t.length ≤ 30000) (W : World) : Calls Tryd.prog 37 #[.string (B t)] W fun e w' => e = .returned (.slice none 0 0) ∧ Below W.heap.size W w' := by
  have h0 : ofR t t.length = [] := ofR_none (fun k hk => by
    have ht : TopX (run (t.take (k + 1))) := calm_top (t := t.take (k + 1)) (fun b hb => h b (List.mem_of_mem_take hb)) ⟨0, true, rfl⟩ 0
    unfold FP fp
    rw [frs_top ht]
    rfl) _ (Nat.le_refl _)
  refine (refOf_any t W hl).mono ?_
  rintro e w' ⟨vl, rfl, _, h2, h3⟩
  rw [h2 h0]
  exact ⟨rfl, h3⟩
def moreL (l : List UInt8) : List UInt8 := l.map fun b => sevenL.getD (b.toNat % 7) 97
theorem more_calm (l : List UInt8) : calm (moreL l) := seven_calm (fun b hb => by
  obtain ⟨c, _, rfl⟩ := List.mem_map.1 hb
  have : c.toNat % 7 < 7 := Nat.mod_lt _ (by omega)
  rw [List.getD_eq_getElem?_getD, List.getElem?_eq_getElem (show c.toNat % 7 < sevenL.length from this)]
  exact List.getElem_mem _)
theorem walk {H : Type} (enc : TypeId × Value → H) (w : World) (base : Nat) {v0 v1 v2 : Value} {d0 d1 d2 : DataW H} {p0 p1 p2 : List MemPlace} (hm : MaxL w)
    (h0 : DataW.Trod enc Tryd.prog w 0 (fun _ => true) true 9 v0 d0 p0) (k0 : Value.okWide Tryd.prog w .any base 9 v0)
    (h1 : DataW.Trod enc Tryd.prog w 0 (fun _ => true) true 3 v1 d1 p1) (k1 : Value.okWide Tryd.prog w .any base 3 v1)
    (h2 : DataW.Trod enc Tryd.prog w 0 (fun _ => true) true 22 v2 d2 p2) (k2 : Value.okWide Tryd.prog w .any base 22 v2) :
    Calls Tryd.prog 3 #[v0, v1, v2] w fun e w' => e = .returned (.bool true) ∧ Below w.heap.size w w' := by
  obtain ⟨s, rfl, hs0⟩ := open_text h0 k0
  obtain ⟨st, rfl, hs1⟩ := open_num h1 k1
  obtain ⟨l, hv, hok, hl⟩ := open_sl bytC (fun _ => True) Tryd.underlying22 byt_cells (by omega) byt_dec h2 k2
  clear h0 k0 h1 k1 h2 k2 hok
  obtain ⟨A, c, rfl, hc1, hc2, hn, hA⟩ := hv
  have HA := Lib.hid hA
  clear hA hn
  have HAW := Lib.hid (awake17_any w hm)
  by_cases l1 : 40 < s.length
  · go_enter Tryd.func3, Tryd.ntmps3
    go_wp2_with (go_at_call 5; refine HAW.out.mono ?_; rintro e w1 ⟨rfl, hb⟩; have HB := Lib.hid hb; clear hb)
    go_ret
    exact ⟨rfl, HB.out⟩
  have g1 := no (show ¬ (40 : Int) < (s.length : Int) by omega)
  by_cases l2 : 20 < l.length
  · go_enter Tryd.func3, Tryd.ntmps3
    go_wp2_with (go_at_call 5; refine HAW.out.mono ?_; rintro e w1 ⟨rfl, hb⟩; have HB := Lib.hid hb; clear hb)
    go_ret
    exact ⟨rfl, HB.out⟩
  have g2 := no (show ¬ (20 : Int) < (l.length : Int) by omega)
  have hs : s.length ≤ 1073741824 := by omega
  have hx := enc_len s st false
  have hml : (moreL l).length ≤ 20 := by unfold moreL; rw [List.length_map]; omega
  have hcm := more_calm l
  have HE := Lib.hid fun W (hb : Below w.heap.size w W) => encode_any s st false W (hm.below hb) hs
  have HV := Lib.hid fun W => value_any (encL s st false ++ moreL l) W (by rw [List.length_append]; omega)
  rw [value_on s st (moreL l) hcm] at HV
  have HX := Lib.hid fun W => refExpands_none (moreL l) W (by omega) (of_calm hcm (by omega))
  have HM := Lib.hid fun k (hk : k < l.length) => (show moreL (l.take (k + 1)) = moreL (l.take k) ++ (sevenL.take (l[k].toNat % 7 + 1)).drop (l[k].toNat % 7) by
    unfold moreL
    rw [List.take_succ_eq_append_getElem hk, List.map_append]
    congr 1
    have h7 : l[k].toNat % 7 < sevenL.length := Nat.mod_lt _ (by decide)
    rw [one_at sevenL _ h7, List.map_singleton, List.getD_eq_getElem?_getD, List.getElem?_eq_getElem h7]
    rfl)
  have hsum : ¬ 9223372036854775807 < (encL s st false).length + (moreL l).length := by omega
  have hsum2 : ¬ 9223372036854775807 < s.length + (moreL l).length := by omega
  clear l1 l2 hs0 hs1 hx hcm
  generalize encL s st false = x at *
  dsimp only at HV
  have hsv : sevenL.length = 7 := rfl
  go_enter Tryd.func3, Tryd.ntmps3
  go_wp2_with (go_at_call 5; refine HAW.out.mono ?_; rintro e w1 ⟨rfl, hb⟩; have HB := Lib.hid hb; clear hb)
  rw [show ({ data := #[] } : ByteArray) = B (moreL (l.take 0)) from rfl]
  go_loopw [7, 8] (fun t i wr => ∃ k : Nat, k ≤ l.length ∧ i = .int .i64 k ∧ t = .string (B (moreL (l.take k))) ∧ Hid (Below w.heap.size w wr)) (fun _ i _ => l.length - (intOf i).toNat)
  case atStart => exact ⟨0, by omega, rfl, rfl, HB⟩
  case round =>
    clear HB
    obtain ⟨k, hk, rfl, rfl, HB⟩ := hrel
    by_cases hlt : k < l.length
    · have k0 : (0 : Int) ≤ (k : Int) := by omega
      have k1 : (k : Int) < (l.length : Int) := by omega
      obtain ⟨b, off, rfl, hb, hcl⟩ := HA.out (by omega)
      have hc := hcl k _ (List.getElem?_eq_getElem hlt) 0 _ rfl
      have hcw : wr.cell? ⟨b, off + k, none⟩ = some (.int .u8 l[k].toNat) := by
        have := (HB.out.cell (p := ⟨b, off + k * 1 + 0, none⟩) hb).trans hc
        simpa using this
      haveI : Old wr b := ⟨Nat.lt_of_lt_of_le hb HB.out.size⟩
      have HMK := Lib.hid (HM.out k hlt)
      have hlk : ∀ j, (moreL (l.take j)).length ≤ 20 := fun j => by have := hml; unfold moreL at this ⊢; rw [List.length_map] at this ⊢; rw [List.length_take]; omega
      have hsum3 : ¬ 9223372036854775807 < (moreL (l.take k)).length + (l[k].toNat % 7 + 1 - l[k].toNat % 7) := by have := hlk k; omega
      have q0 := UInt8.toNat_lt l[k]
      clear hcl hc
      generalize l[k].toNat = n at *
      have q1 : IntKind.i64.wrap (n : Int) = (n : Int) := IntWalk.i64_in _ (by omega)
      have q2 : n % 7 < 7 := Nat.mod_lt _ (by omega)
      have q3 : (0 : Int) ≤ (n : Int) % 7 := by omega
      have q4 : ((n : Int) % 7).toNat = n % 7 := by omega
      have q5 : IntKind.i64.wrap ((n : Int) % 7) = (n : Int) % 7 := IntWalk.i64_in _ (by omega)
      have q6 : IntKind.i64.wrap ((n : Int) % 7 + 1) = (n : Int) % 7 + 1 := IntWalk.i64_in _ (by omega)
      have q7 : ((n : Int) % 7 + 1).toNat = n % 7 + 1 := by omega
      have q8 : (n : Int) % 7 + 1 ≤ (sevenL.length : Int) := by rw [hsv]; omega
      have q9 : (n : Int) % 7 ≤ (n : Int) % 7 + 1 := by omega
      have q10 : Int.tmod (n : Int) 7 = (n : Int) % 7 := Int.tmod_eq_emod_of_nonneg (by omega)
      go_wp2
      rw [show ({ data := #[97, 98, 99, 47, 46, 45, 95] } : ByteArray) = B sevenL from rfl]
      (refine wp_region_grow (by kernel_rfl) (by kernel_rfl) ?_; (repeat (go_big_quiet_step (fail))); refine wpQuiet_nil ?_; intro _ hw'; obtain ⟨gq, hw''⟩ := hw'; subst hw'')
      go_wp2
      exact ⟨⟨k + 1, by omega, by go_num, by rw [HMK.out], Lib.hid (below_then HB.out (grow_below _ _))⟩, by simp [intOf]; omega⟩
    · have hk' : k = l.length := by omega
      subst hk'
      have k1 : ¬ (l.length : Int) < (l.length : Int) := by omega
      rw [List.take_length]
      clear hlt hk HM
      go_wp2_with (first
        | (go_at_call 7; refine (HE.out _ HB.out).mono ?_; rintro e w2 ⟨rfl, hb⟩; have HB2 := Lib.hid (below_then HB.out hb); clear hb)
        | (go_at_call 6; refine (HV.out _).mono ?_; rintro e w3 ⟨rfl, hb⟩; have HB3 := Lib.hid (below_then HB2.out hb); clear hb)
        | (go_at_call 8; refine (HX.out _).mono ?_; rintro e w4 ⟨rfl, hb⟩; have HB4 := Lib.hid (below_then HB3.out hb); clear hb))
      go_ret
      exact ⟨rfl, HB4.out⟩
end Go.Proofs.YtljinmfkogmmlaaDoor.quotingOn
