/-
  The walk of the law GlobParts: it returns true, whatever its arguments. Conditions: the library's variable MaxLen holds some number (arguments as the row reads them).
-/
import Derived.Test.YtnecmpgcjgkheaaFlOpen
set_option linter.unusedSimpArgs false
set_option linter.unusedVariables false
namespace Go.Proofs.Ytnecmpgcjgkheaa.globParts
open Go.ChangeShapes Go.WideShapes Go.Deep Go.ChangeAt Go.RowKit Fil Pat Glob
set_option maxRecDepth 100000
set_option maxHeartbeats 6400000 in
theorem walk {H : Type} (enc : TypeId × Value → H) (w : World) (base : Nat) {v0 : Value} {d0 : DataW H} {p0 : List MemPlace} (hm : MaxL w)
    (h0 : DataW.Trod enc Try.prog w 0 (fun _ => true) true 9 v0 d0 p0) (k0 : Value.okWide Try.prog w .any base 9 v0) :
    Calls Try.prog 3 #[v0] w fun e w' => e = .returned (.bool true) ∧ Below w.heap.size w w' := by
  obtain ⟨p, rfl, hs0⟩ := open_text h0 k0
  clear h0 k0
  have HAW := Lib.hid (awake27_any w hm)
  by_cases l1 : 100 < p.length
  · go_enter Try.func3, Try.ntmps3
    go_wp2_with (go_at_call 6; refine HAW.out.mono ?_; rintro e w1 ⟨rfl, hb⟩; have HB := Lib.hid hb; clear hb)
    go_ret
    exact ⟨rfl, HB.out⟩
  have c1 := no (show ¬ (100 : Int) < (p.length : Int) by omega)
  have HP := Lib.hid fun W => globParts_any p W (by omega)
  have HR := Lib.hid fun W => refPartsG_any p W (by omega)
  have HS := Lib.hid same22
  clear l1 hs0
  go_enter Try.func3, Try.ntmps3
  go_wp2_with (first
    | (go_at_call 6; refine HAW.out.mono ?_; rintro e w1 ⟨rfl, hb⟩; have HB1 := Lib.hid hb; clear hb)
    | (go_at_call 8; refine (HP.out _).mono ?_; rintro e w2 ⟨v2, rfl, ho, hb⟩; have HO2 := Lib.hid ho; have HB2 := Lib.hid (below_then HB1.out hb); clear ho hb)
    | (go_at_call 9; refine (HR.out _).mono ?_; rintro e w3 ⟨v3, rfl, ho, hb⟩; have HO3 := Lib.hid ho; have HO2' := Lib.hid (HO2.out.below hb); have HB3 := Lib.hid (below_then HB2.out hb); clear ho hb)
    | (go_at_call 7; refine (HS.out (partsG p) (partsG p) _ _ _ (HO2'.out.sl (fun _ _ => rfl) rfl) (HO3.out.sl (fun _ _ => rfl) rfl)).mono ?_; rintro e w4 ⟨rfl, hb⟩; have HB4 := Lib.hid (below_then HB3.out hb); clear hb))
  go_ret
  exact ⟨by simp, HB4.out⟩
end Go.Proofs.Ytnecmpgcjgkheaa.globParts
