/-
  The walk of the law FilesCleans: it returns true, whatever its arguments. Conditions: the library's variable MaxLen holds some number (arguments as the row reads them).
-/
import Derived.Test.YtkllgikmlgponaaTree5
import Derived.Test.YtkllgikmlgponaaFil4
import Derived.Test.YtkllgikmlgponaaOpen
namespace Go.Proofs.Ytkllgikmlgponaa.filesCleans
open Go.ChangeShapes Go.WideShapes Go.Deep Go.ChangeAt Go.RowKit Fil Pat
set_option maxRecDepth 100000
theorem clean_len (dir text : List UInt8) : (cleanL dir text).length ≤ dir.length + text.length + 2 := by
  have h := names_jlen dir text
  have h2 : (startL dir text).length ≤ dir.length + text.length + 1 := by
    unfold startL
    split
    · omega
    · rw [List.length_append, List.length_cons]; omega
  unfold cleanL
  split
  · simp
  · omega
set_option maxHeartbeats 6400000 in
theorem walk {H : Type} (enc : TypeId × Value → H) (w : World) (base : Nat) {v0 v1 v2 v3 : Value} {d0 d1 d2 d3 : DataW H} {p0 p1 p2 p3 : List MemPlace} (hm : MaxL w)
    (h0 : DataW.Trod enc Try.prog w 0 (fun _ => true) true 9 v0 d0 p0) (k0 : Value.okWide Try.prog w .any base 9 v0)
    (h1 : DataW.Trod enc Try.prog w 0 (fun _ => true) true 9 v1 d1 p1) (k1 : Value.okWide Try.prog w .any base 9 v1)
    (h2 : DataW.Trod enc Try.prog w 0 (fun _ => true) true 9 v2 d2 p2) (k2 : Value.okWide Try.prog w .any base 9 v2)
    (h3 : DataW.Trod enc Try.prog w 0 (fun _ => true) true 9 v3 d3 p3) (k3 : Value.okWide Try.prog w .any base 9 v3) :
    Calls Try.prog 7 #[v0, v1, v2, v3] w fun e w' => e = .returned (.bool true) ∧ Below w.heap.size w w' := by
  obtain ⟨dir, rfl, hs0⟩ := open_text h0 k0
  obtain ⟨other, rfl, hs1⟩ := open_text h1 k1
  obtain ⟨text, rfl, hs2⟩ := open_text h2 k2
  obtain ⟨more, rfl, hs3⟩ := open_text h3 k3
  clear h0 k0 h1 k1 h2 k2 h3 k3
  have HAW := Lib.hid (awake18_any w hm)
  by_cases l0 : 100 < dir.length
  · go_enter Try.func7, Try.ntmps7
    go_wp2_with (go_at_call 24; refine HAW.out.mono ?_; rintro e w1 ⟨rfl, hb⟩; have HB := Lib.hid hb; clear hb)
    go_ret
    exact ⟨rfl, HB.out⟩
  have c0 := no (show ¬ (100 : Int) < (dir.length : Int) by omega)
  by_cases l1 : 100 < other.length
  · clear l0
    go_enter Try.func7, Try.ntmps7
    go_wp2_with (go_at_call 24; refine HAW.out.mono ?_; rintro e w1 ⟨rfl, hb⟩; have HB := Lib.hid hb; clear hb)
    go_ret
    exact ⟨rfl, HB.out⟩
  have c1 := no (show ¬ (100 : Int) < (other.length : Int) by omega)
  by_cases l2 : 100 < text.length
  · clear l0 l1
    go_enter Try.func7, Try.ntmps7
    go_wp2_with (go_at_call 24; refine HAW.out.mono ?_; rintro e w1 ⟨rfl, hb⟩; have HB := Lib.hid hb; clear hb)
    go_ret
    exact ⟨rfl, HB.out⟩
  have c2 := no (show ¬ (100 : Int) < (text.length : Int) by omega)
  by_cases l3 : 100 < more.length
  · clear l0 l1 l2
    go_enter Try.func7, Try.ntmps7
    go_wp2_with (go_at_call 24; refine HAW.out.mono ?_; rintro e w1 ⟨rfl, hb⟩; have HB := Lib.hid hb; clear hb)
    go_ret
    exact ⟨rfl, HB.out⟩
  have c3 := no (show ¬ (100 : Int) < (more.length : Int) by omega)
  have HRP1 := Lib.hid fun W => refIsPath_any dir W (by omega)
  have HRP2 := Lib.hid fun W => refIsPath_any other W (by omega)
  cases hp1 : pathB dir with
  | false =>
    rw [hp1] at HRP1
    clear l0 l1 l2 l3
    go_enter Try.func7, Try.ntmps7
    go_wp2_with (first
      | (go_at_call 24; refine HAW.out.mono ?_; rintro e w1 ⟨rfl, hb⟩; have HB := Lib.hid hb; clear hb)
      | (go_at_call 26; (with_reducible refine (HRP1.out _).mono ?_); rintro e w3 ⟨rfl, hb⟩; have HB := Lib.hid (below_then HB.out hb); clear hb))
    go_ret
    exact ⟨rfl, HB.out⟩
  | true =>
  rw [hp1] at HRP1
  cases hp2 : pathB other with
  | false =>
    rw [hp2] at HRP2
    clear l0 l1 l2 l3
    go_enter Try.func7, Try.ntmps7
    go_wp2_with (first
      | (go_at_call 24; refine HAW.out.mono ?_; rintro e w1 ⟨rfl, hb⟩; have HB := Lib.hid hb; clear hb)
      | (go_at_call 26; (with_reducible refine (HRP1.out _).mono ?_); rintro e w3 ⟨rfl, hb⟩; have HB := Lib.hid (below_then HB.out hb); clear hb)
      | (go_at_call 26; (with_reducible refine (HRP2.out _).mono ?_); rintro e w3 ⟨rfl, hb⟩; have HB := Lib.hid (below_then HB.out hb); clear hb))
    go_ret
    exact ⟨rfl, HB.out⟩
  | true =>
  rw [hp2] at HRP2
  have hcl := clean_len dir text
  have HC1 := Lib.hid fun W (hW : Below w.heap.size w W) => clean_any dir text W (hm.below hW) (by omega) (by omega)
  have HC2 := Lib.hid fun W (hW : Below w.heap.size w W) => clean_any other (cleanL dir text) W (hm.below hW) (by omega) (by omega)
  rw [clean_clean] at HC2
  have HRP3 := Lib.hid fun W => refIsPath_any (cleanL dir text) W (by omega)
  have HC3 := Lib.hid fun W (hW : Below w.heap.size w W) => clean_any dir (text ++ 47 :: more) W (hm.below hW) (by omega) (by rw [List.length_append, List.length_cons]; omega)
  have HC4 := Lib.hid fun W (hW : Below w.heap.size w W) => clean_any (cleanL dir text) more W (hm.below hW) (by omega) (by omega)
  have HCM := Lib.hid fun h1 h2 => clean_more (dir := dir) (text := text) (more := more) h1 h2
  have b1 : ((text.length : Int) + 1) ≤ 9223372036854775807 := by omega
  have b2 : ((text.length : Int) + 1 + (more.length : Int)) ≤ 9223372036854775807 := by omega
  clear l0 l1 l2 l3 hp1 hp2 hcl hm
  generalize cleanL dir (text ++ 47 :: more) = c5 at *
  generalize cleanL (cleanL dir text) more = c6 at *
  generalize cleanL dir text = cl at *
  by_cases t0 : text = []
  · subst t0
    go_enter Try.func7, Try.ntmps7
    go_wp2_with (first
        | (go_at_call 24; refine HAW.out.mono ?_; rintro e w1 ⟨rfl, hb⟩; have HB := Lib.hid hb; clear hb)
        | (go_at_call 26; (with_reducible refine (HRP1.out _).mono ?_); rintro e w3 ⟨rfl, hb⟩; have HB := Lib.hid (below_then HB.out hb); clear hb)
        | (go_at_call 26; (with_reducible refine (HRP2.out _).mono ?_); rintro e w3 ⟨rfl, hb⟩; have HB := Lib.hid (below_then HB.out hb); clear hb)
        | (go_at_call 26; (with_reducible refine (HRP3.out _).mono ?_); rintro e w3 ⟨rfl, hb⟩; have HB := Lib.hid (below_then HB.out hb); clear hb)
        | (go_at_call 30; (with_reducible refine (HC1.out _ HB.out).mono ?_); rintro e w3 ⟨rfl, hb⟩; have HB := Lib.hid (below_then HB.out hb); clear hb)
        | (go_at_call 30; (with_reducible refine (HC2.out _ HB.out).mono ?_); rintro e w3 ⟨rfl, hb⟩; have HB := Lib.hid (below_then HB.out hb); clear hb)
        | (go_at_call 30; (with_reducible refine (HC3.out _ HB.out).mono ?_); rintro e w3 ⟨rfl, hb⟩; have HB := Lib.hid (below_then HB.out hb); clear hb)
        | (go_at_call 30; (with_reducible refine (HC4.out _ HB.out).mono ?_); rintro e w3 ⟨rfl, hb⟩; have HB := Lib.hid (below_then HB.out hb); clear hb))
    go_ret
    exact ⟨rfl, HB.out⟩
  have t1 : (((text.length : Int)) == 0) = false := by
    rw [beq_eq_false_iff_ne]
    intro h
    exact t0 (List.eq_nil_of_length_eq_zero (by omega))
  have HT := Lib.hid t0
  clear t0
  by_cases m0 : more.length = 0
  · obtain rfl := List.eq_nil_of_length_eq_zero m0
    clear m0
    have HE := Lib.hid (HCM.out HT.out (by simp))
    clear HCM HT
    cases hp3 : pathB cl with
    | false =>
      rw [hp3] at HRP3
      go_enter Try.func7, Try.ntmps7
      go_wp2_with (first
        | (go_at_call 24; refine HAW.out.mono ?_; rintro e w1 ⟨rfl, hb⟩; have HB := Lib.hid hb; clear hb)
        | (go_at_call 26; (with_reducible refine (HRP1.out _).mono ?_); rintro e w3 ⟨rfl, hb⟩; have HB := Lib.hid (below_then HB.out hb); clear hb)
        | (go_at_call 26; (with_reducible refine (HRP2.out _).mono ?_); rintro e w3 ⟨rfl, hb⟩; have HB := Lib.hid (below_then HB.out hb); clear hb)
        | (go_at_call 26; (with_reducible refine (HRP3.out _).mono ?_); rintro e w3 ⟨rfl, hb⟩; have HB := Lib.hid (below_then HB.out hb); clear hb)
        | (go_at_call 30; (with_reducible refine (HC1.out _ HB.out).mono ?_); rintro e w3 ⟨rfl, hb⟩; have HB := Lib.hid (below_then HB.out hb); clear hb)
        | (go_at_call 30; (with_reducible refine (HC2.out _ HB.out).mono ?_); rintro e w3 ⟨rfl, hb⟩; have HB := Lib.hid (below_then HB.out hb); clear hb)
        | (go_at_call 30; (with_reducible refine (HC3.out _ HB.out).mono ?_); rintro e w3 ⟨rfl, hb⟩; have HB := Lib.hid (below_then HB.out hb); clear hb)
        | (go_at_call 30; (with_reducible refine (HC4.out _ HB.out).mono ?_); rintro e w3 ⟨rfl, hb⟩; have HB := Lib.hid (below_then HB.out hb); clear hb))
      go_ret
      exact ⟨rfl, HB.out⟩
    | true =>
      rw [hp3] at HRP3
      go_enter Try.func7, Try.ntmps7
      go_wp2_with (first
        | (go_at_call 24; refine HAW.out.mono ?_; rintro e w1 ⟨rfl, hb⟩; have HB := Lib.hid hb; clear hb)
        | (go_at_call 26; (with_reducible refine (HRP1.out _).mono ?_); rintro e w3 ⟨rfl, hb⟩; have HB := Lib.hid (below_then HB.out hb); clear hb)
        | (go_at_call 26; (with_reducible refine (HRP2.out _).mono ?_); rintro e w3 ⟨rfl, hb⟩; have HB := Lib.hid (below_then HB.out hb); clear hb)
        | (go_at_call 26; (with_reducible refine (HRP3.out _).mono ?_); rintro e w3 ⟨rfl, hb⟩; have HB := Lib.hid (below_then HB.out hb); clear hb)
        | (go_at_call 30; (with_reducible refine (HC1.out _ HB.out).mono ?_); rintro e w3 ⟨rfl, hb⟩; have HB := Lib.hid (below_then HB.out hb); clear hb)
        | (go_at_call 30; (with_reducible refine (HC2.out _ HB.out).mono ?_); rintro e w3 ⟨rfl, hb⟩; have HB := Lib.hid (below_then HB.out hb); clear hb)
        | (go_at_call 30; (with_reducible refine (HC3.out _ HB.out).mono ?_); rintro e w3 ⟨rfl, hb⟩; have HB := Lib.hid (below_then HB.out hb); clear hb)
        | (go_at_call 30; (with_reducible refine (HC4.out _ HB.out).mono ?_); rintro e w3 ⟨rfl, hb⟩; have HB := Lib.hid (below_then HB.out hb); clear hb))
      go_ret
      exact ⟨by rw [HE.out]; simp, HB.out⟩
  have hml : 0 < more.length := by omega
  have m1 := yes (show (0 : Int) < (more.length : Int) by omega)
  have hmh : more.head? = some more[0] := by rw [List.head?_eq_getElem?, List.getElem?_eq_getElem hml]
  clear m0
  have B1 := Lib.hid (show text.length < 101 ∧ more.length < 101 by have := of_decide_eq_false c2; have := of_decide_eq_false c3; omega)
  clear b1 b2
  cases hp3 : pathB cl with
  | false =>
    rw [hp3] at HRP3
    clear HCM HT hmh
    go_enter Try.func7, Try.ntmps7
    go_wp2_with (first
        | (go_at_call 24; refine HAW.out.mono ?_; rintro e w1 ⟨rfl, hb⟩; have HB := Lib.hid hb; clear hb)
        | (go_at_call 26; (with_reducible refine (HRP1.out _).mono ?_); rintro e w3 ⟨rfl, hb⟩; have HB := Lib.hid (below_then HB.out hb); clear hb)
        | (go_at_call 26; (with_reducible refine (HRP2.out _).mono ?_); rintro e w3 ⟨rfl, hb⟩; have HB := Lib.hid (below_then HB.out hb); clear hb)
        | (go_at_call 26; (with_reducible refine (HRP3.out _).mono ?_); rintro e w3 ⟨rfl, hb⟩; have HB := Lib.hid (below_then HB.out hb); clear hb)
        | (go_at_call 30; (with_reducible refine (HC1.out _ HB.out).mono ?_); rintro e w3 ⟨rfl, hb⟩; have HB := Lib.hid (below_then HB.out hb); clear hb)
        | (go_at_call 30; (with_reducible refine (HC2.out _ HB.out).mono ?_); rintro e w3 ⟨rfl, hb⟩; have HB := Lib.hid (below_then HB.out hb); clear hb)
        | (go_at_call 30; (with_reducible refine (HC3.out _ HB.out).mono ?_); rintro e w3 ⟨rfl, hb⟩; have HB := Lib.hid (below_then HB.out hb); clear hb)
        | (go_at_call 30; (with_reducible refine (HC4.out _ HB.out).mono ?_); rintro e w3 ⟨rfl, hb⟩; have HB := Lib.hid (below_then HB.out hb); clear hb))
    all_goals (go_ret; exact ⟨rfl, HB.out⟩)
  | true =>
    rw [hp3] at HRP3
    have HMH := Lib.hid hmh
    clear hmh
    go_enter Try.func7, Try.ntmps7
    go_upto_region 10 with (first
        | (go_at_call 24; refine HAW.out.mono ?_; rintro e w1 ⟨rfl, hb⟩; have HB := Lib.hid hb; clear hb)
        | (go_at_call 26; (with_reducible refine (HRP1.out _).mono ?_); rintro e w3 ⟨rfl, hb⟩; have HB := Lib.hid (below_then HB.out hb); clear hb)
        | (go_at_call 26; (with_reducible refine (HRP2.out _).mono ?_); rintro e w3 ⟨rfl, hb⟩; have HB := Lib.hid (below_then HB.out hb); clear hb)
        | (go_at_call 26; (with_reducible refine (HRP3.out _).mono ?_); rintro e w3 ⟨rfl, hb⟩; have HB := Lib.hid (below_then HB.out hb); clear hb)
        | (go_at_call 30; (with_reducible refine (HC1.out _ HB.out).mono ?_); rintro e w3 ⟨rfl, hb⟩; have HB := Lib.hid (below_then HB.out hb); clear hb)
        | (go_at_call 30; (with_reducible refine (HC2.out _ HB.out).mono ?_); rintro e w3 ⟨rfl, hb⟩; have HB := Lib.hid (below_then HB.out hb); clear hb)
        | (go_at_call 30; (with_reducible refine (HC3.out _ HB.out).mono ?_); rintro e w3 ⟨rfl, hb⟩; have HB := Lib.hid (below_then HB.out hb); clear hb)
        | (go_at_call 30; (with_reducible refine (HC4.out _ HB.out).mono ?_); rintro e w3 ⟨rfl, hb⟩; have HB := Lib.hid (below_then HB.out hb); clear hb))
    · go_ret; exact ⟨rfl, HB.out⟩
    · rename_i hne _ _
      have b1 : ((text.length : Int) + 1) ≤ 9223372036854775807 := by have := B1.out.1; omega
      have b2 : ((text.length : Int) + 1 + (more.length : Int)) ≤ 9223372036854775807 := by have := B1.out; omega
      have HE := HCM.out HT.out (by
        rw [HMH.out]
        intro h
        rw [Option.some.inj h] at hne
        exact absurd hne (by decide))
      clear HCM HMH hne
      go_wp2_with (first
          | (go_at_call 24; refine HAW.out.mono ?_; rintro e w1 ⟨rfl, hb⟩; have HB := Lib.hid hb; clear hb)
          | (go_at_call 26; (with_reducible refine (HRP1.out _).mono ?_); rintro e w3 ⟨rfl, hb⟩; have HB := Lib.hid (below_then HB.out hb); clear hb)
          | (go_at_call 26; (with_reducible refine (HRP2.out _).mono ?_); rintro e w3 ⟨rfl, hb⟩; have HB := Lib.hid (below_then HB.out hb); clear hb)
          | (go_at_call 26; (with_reducible refine (HRP3.out _).mono ?_); rintro e w3 ⟨rfl, hb⟩; have HB := Lib.hid (below_then HB.out hb); clear hb)
          | (go_at_call 30; (with_reducible refine (HC1.out _ HB.out).mono ?_); rintro e w3 ⟨rfl, hb⟩; have HB := Lib.hid (below_then HB.out hb); clear hb)
          | (go_at_call 30; (with_reducible refine (HC2.out _ HB.out).mono ?_); rintro e w3 ⟨rfl, hb⟩; have HB := Lib.hid (below_then HB.out hb); clear hb)
          | (go_at_call 30; (with_reducible refine (HC3.out _ HB.out).mono ?_); rintro e w3 ⟨rfl, hb⟩; have HB := Lib.hid (below_then HB.out hb); clear hb)
          | (go_at_call 30; (with_reducible refine (HC4.out _ HB.out).mono ?_); rintro e w3 ⟨rfl, hb⟩; have HB := Lib.hid (below_then HB.out hb); clear hb))
      go_ret
      exact ⟨rfl, HB.out⟩
end Go.Proofs.Ytkllgikmlgponaa.filesCleans
