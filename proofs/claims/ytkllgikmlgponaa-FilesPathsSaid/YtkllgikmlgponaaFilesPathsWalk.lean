/-
  The walk of the law FilesPaths: it returns true, whatever its arguments. Conditions: the library's variable MaxLen holds some number (arguments as the row reads them).
-/
import Derived.Test.YtkllgikmlgponaaTree5
import Derived.Test.YtkllgikmlgponaaFil5
import Derived.Test.YtkllgikmlgponaaOpen
namespace Go.Proofs.Ytkllgikmlgponaa.filesPaths
open Go.ChangeShapes Go.WideShapes Go.Deep Go.ChangeAt Go.RowKit Fil Pat
set_option maxRecDepth 100000
set_option maxHeartbeats 6400000 in
theorem walk {H : Type} (enc : TypeId × Value → H) (w : World) (base : Nat) {v0 v1 : Value} {d0 d1 : DataW H} {p0 p1 : List MemPlace} (hm : MaxL w)
    (h0 : DataW.Trod enc Try.prog w 0 (fun _ => true) true 9 v0 d0 p0) (k0 : Value.okWide Try.prog w .any base 9 v0)
    (h1 : DataW.Trod enc Try.prog w 0 (fun _ => true) true 9 v1 d1 p1) (k1 : Value.okWide Try.prog w .any base 9 v1) :
    Calls Try.prog 6 #[v0, v1] w fun e w' => e = .returned (.bool true) ∧ Below w.heap.size w w' := by
  obtain ⟨dir, rfl, hs0⟩ := open_text h0 k0
  obtain ⟨text, rfl, hs1⟩ := open_text h1 k1
  clear h0 k0 h1 k1
  have HAW := Lib.hid (awake18_any w hm)
  by_cases l1 : 300 < dir.length
  · go_enter Try.func6, Try.ntmps6
    go_wp2_with (go_at_call 24; refine HAW.out.mono ?_; rintro e w1 ⟨rfl, hb⟩; have HB := Lib.hid hb; clear hb)
    go_ret
    exact ⟨rfl, HB.out⟩
  have c1 := no (show ¬ (300 : Int) < (dir.length : Int) by omega)
  by_cases l2 : 300 < text.length
  · clear l1
    go_enter Try.func6, Try.ntmps6
    go_wp2_with (go_at_call 24; refine HAW.out.mono ?_; rintro e w1 ⟨rfl, hb⟩; have HB := Lib.hid hb; clear hb)
    go_ret
    exact ⟨rfl, HB.out⟩
  have c2 := no (show ¬ (300 : Int) < (text.length : Int) by omega)
  have HPT := Lib.hid fun W (hW : Below w.heap.size w W) => part_any text W (hm.below hW) (by omega)
  have HRP := Lib.hid fun s W (hs : s.length ≤ 1073741824) => refIsPath_any s W hs
  have HIP := Lib.hid fun W (hW : Below w.heap.size w W) => isPath_any text W (hm.below hW) (by omega)
  have HRD := Lib.hid fun W => refDir_any text W (by omega)
  have HRN := Lib.hid fun W => refName_any text W (by omega)
  have HCL := Lib.hid fun W (hW : Below w.heap.size w W) => clean_any dir text W (hm.below hW) (by omega) (by omega)
  have HRC := Lib.hid fun W => refClean_any dir text W (by omega) (by omega)
  have hlt : text.length ≤ 1073741824 := by omega
  have hld : dir.length ≤ 1073741824 := by omega
  unfold partV at HPT
  clear hm l1 l2 hs0 hs1
  generalize cleanL dir text = cl at *
  generalize dirL text = dl at *
  generalize lastN text = ln at *
  cases hp : pathB text with
  | false =>
    have HRP1 := Lib.hid fun W => HRP.out text W hlt
    have HRP2 := Lib.hid fun W => HRP.out dir W hld
    rw [hp] at HPT HIP HRP1
    rw [if_neg (by simp)] at HPT
    clear hp HRP
    generalize pathB dir = pd at *
    cases pd with
    | false =>
      go_enter Try.func6, Try.ntmps6
      go_wp2_with (first
        | (go_at_call 24; refine HAW.out.mono ?_; rintro e w1 ⟨rfl, hb⟩; have HB := Lib.hid hb; clear hb)
        | (go_at_call 25; refine (HPT.out _ HB.out).mono ?_; rintro e w2 ⟨rfl, hb⟩; have HB2 := Lib.hid (below_then HB.out hb); clear hb)
        | (go_at_call 26; (with_reducible refine (HRP1.out _).mono ?_); rintro e w3 ⟨rfl, hb⟩; have HB2 := Lib.hid (below_then HB2.out hb); clear hb)
        | (go_at_call 26; (with_reducible refine (HRP2.out _).mono ?_); rintro e w3 ⟨rfl, hb⟩; have HB2 := Lib.hid (below_then HB2.out hb); clear hb)
        | (go_at_call 27; (with_reducible refine (HIP.out _ HB2.out).mono ?_); rintro e w4 ⟨rfl, hb⟩; have HB2 := Lib.hid (below_then HB2.out hb); clear hb))
      go_ret
      exact ⟨rfl, HB2.out⟩
    | true =>
      go_enter Try.func6, Try.ntmps6
      go_wp2_with (first
        | (go_at_call 24; refine HAW.out.mono ?_; rintro e w1 ⟨rfl, hb⟩; have HB := Lib.hid hb; clear hb)
        | (go_at_call 25; refine (HPT.out _ HB.out).mono ?_; rintro e w2 ⟨rfl, hb⟩; have HB2 := Lib.hid (below_then HB.out hb); clear hb)
        | (go_at_call 26; (with_reducible refine (HRP1.out _).mono ?_); rintro e w3 ⟨rfl, hb⟩; have HB2 := Lib.hid (below_then HB2.out hb); clear hb)
        | (go_at_call 26; (with_reducible refine (HRP2.out _).mono ?_); rintro e w3 ⟨rfl, hb⟩; have HB2 := Lib.hid (below_then HB2.out hb); clear hb)
        | (go_at_call 27; (with_reducible refine (HIP.out _ HB2.out).mono ?_); rintro e w4 ⟨rfl, hb⟩; have HB2 := Lib.hid (below_then HB2.out hb); clear hb)
        | (go_at_call 30; (with_reducible refine (HCL.out _ HB2.out).mono ?_); rintro e w4 ⟨rfl, hb⟩; have HB2 := Lib.hid (below_then HB2.out hb); clear hb)
        | (go_at_call 31; (with_reducible refine (HRC.out _).mono ?_); rintro e w4 ⟨rfl, hb⟩; have HB2 := Lib.hid (below_then HB2.out hb); clear hb))
      go_ret
      exact ⟨by simp, HB2.out⟩
  | true =>
    have HRP1 := Lib.hid fun W => HRP.out text W hlt
    have HRP2 := Lib.hid fun W => HRP.out dir W hld
    rw [hp] at HPT HIP HRP1
    rw [if_pos rfl] at HPT
    clear hp HRP
    generalize pathB dir = pd at *
    cases pd with
    | false =>
      go_enter Try.func6, Try.ntmps6
      go_wp2_with (first
        | (go_at_call 24; refine HAW.out.mono ?_; rintro e w1 ⟨rfl, hb⟩; have HB := Lib.hid hb; clear hb)
        | (go_at_call 25; refine (HPT.out _ HB.out).mono ?_; rintro e w2 ⟨rfl, hb⟩; have HB2 := Lib.hid (below_then HB.out hb); clear hb)
        | (go_at_call 26; (with_reducible refine (HRP1.out _).mono ?_); rintro e w3 ⟨rfl, hb⟩; have HB2 := Lib.hid (below_then HB2.out hb); clear hb)
        | (go_at_call 26; (with_reducible refine (HRP2.out _).mono ?_); rintro e w3 ⟨rfl, hb⟩; have HB2 := Lib.hid (below_then HB2.out hb); clear hb)
        | (go_at_call 27; (with_reducible refine (HIP.out _ HB2.out).mono ?_); rintro e w4 ⟨rfl, hb⟩; have HB2 := Lib.hid (below_then HB2.out hb); clear hb)
        | (go_at_call 28; (with_reducible refine (HRD.out _).mono ?_); rintro e w4 ⟨rfl, rfl⟩)
        | (go_at_call 29; (with_reducible refine (HRN.out _).mono ?_); rintro e w4 ⟨rfl, hb⟩; have HB2 := Lib.hid (below_then HB2.out hb); clear hb))
      go_ret
      exact ⟨rfl, HB2.out⟩
    | true =>
      go_enter Try.func6, Try.ntmps6
      go_wp2_with (first
        | (go_at_call 24; refine HAW.out.mono ?_; rintro e w1 ⟨rfl, hb⟩; have HB := Lib.hid hb; clear hb)
        | (go_at_call 25; refine (HPT.out _ HB.out).mono ?_; rintro e w2 ⟨rfl, hb⟩; have HB2 := Lib.hid (below_then HB.out hb); clear hb)
        | (go_at_call 26; (with_reducible refine (HRP1.out _).mono ?_); rintro e w3 ⟨rfl, hb⟩; have HB2 := Lib.hid (below_then HB2.out hb); clear hb)
        | (go_at_call 26; (with_reducible refine (HRP2.out _).mono ?_); rintro e w3 ⟨rfl, hb⟩; have HB2 := Lib.hid (below_then HB2.out hb); clear hb)
        | (go_at_call 27; (with_reducible refine (HIP.out _ HB2.out).mono ?_); rintro e w4 ⟨rfl, hb⟩; have HB2 := Lib.hid (below_then HB2.out hb); clear hb)
        | (go_at_call 28; (with_reducible refine (HRD.out _).mono ?_); rintro e w4 ⟨rfl, rfl⟩)
        | (go_at_call 29; (with_reducible refine (HRN.out _).mono ?_); rintro e w4 ⟨rfl, hb⟩; have HB2 := Lib.hid (below_then HB2.out hb); clear hb)
        | (go_at_call 30; (with_reducible refine (HCL.out _ HB2.out).mono ?_); rintro e w4 ⟨rfl, hb⟩; have HB2 := Lib.hid (below_then HB2.out hb); clear hb)
        | (go_at_call 31; (with_reducible refine (HRC.out _).mono ?_); rintro e w4 ⟨rfl, hb⟩; have HB2 := Lib.hid (below_then HB2.out hb); clear hb))
      go_ret
      exact ⟨by simp, HB2.out⟩
end Go.Proofs.Ytkllgikmlgponaa.filesPaths
