/-
  The walk of the law QuotingStates: it returns true, whatever its argument. Conditions: the library's variable MaxLen holds some number (arguments as the row reads them).
-/
import Derived.Test.YtadlaaddpobhbaaDoorMachB
import Derived.Test.YtadlaaddpobhbaaDoorQuoA
import Derived.Test.YtadlaaddpobhbaaDoorOpen
namespace Go.Proofs.YtadlaaddpobhbaaDoor.quotingStates
open Go.ChangeShapes Go.WideShapes Go.Deep Go.ChangeAt Go.RowKit Quo Pat Md Mc
set_option linter.unusedSimpArgs false
set_option linter.unusedVariables false
set_option maxRecDepth 100000
theorem walk {H : Type} (enc : TypeId × Value → H) (w : World) (base : Nat) {v0 : Value} {d0 : DataW H} {p0 : List MemPlace} (hm : MaxL w)
    (h0 : DataW.Trod enc Tryd.prog w 0 (fun _ => true) true 9 v0 d0 p0) (k0 : Value.okWide Tryd.prog w .any base 9 v0) :
    Calls Tryd.prog 5 #[v0] w fun e w' => e = .returned (.bool true) ∧ Below w.heap.size w w' := by
  obtain ⟨s, rfl, hs0⟩ := open_text h0 k0
  clear h0 k0
  have HAW := Lib.hid (awake17_any w hm)
  by_cases l1 : 60 < s.length
  · go_enter Tryd.func5, Tryd.ntmps5
    go_wp2_with (go_at_call 9; refine HAW.out.mono ?_; rintro e w1 ⟨rfl, hb⟩; have HB := Lib.hid hb; clear hb)
    go_ret
    exact ⟨rfl, HB.out⟩
  have c1 := no (show ¬ (60 : Int) < (s.length : Int) by omega)
  have HS := Lib.hid fun W => state_any s W (by omega)
  have HR := Lib.hid fun W => refRun_any s W (by omega)
  clear l1 hs0
  have HML := Lib.hid (rfl : lets (run s).l = lets (run s).l)
  generalize hm : lets (run s).l = m at HS
  have HM := Lib.hid hm
  clear hm HML
  go_enter Tryd.func5, Tryd.ntmps5
  go_wp2_with (first
    | (go_at_call 9; refine HAW.out.mono ?_; rintro e w1 ⟨rfl, hb⟩; have HB := Lib.hid hb; clear hb)
    | (go_at_call 15; refine (HS.out _).mono ?_; rintro e w2 ⟨rfl, hb⟩; have HB2 := Lib.hid (below_then HB.out hb); clear hb)
    | (go_at_call 16; (refine (HR.out _).mono ?_); intro e w3 h1; obtain ⟨s1, A1, n1, c1, f1, rfl, hc1, hd1, hr1, hb1⟩ := h1.out; have HB3 := Lib.hid (below_then HB2.out hb1); have hs1 := hr1.letters; rw [HM.out] at hs1; subst hs1; clear hr1 hb1 h1))
  all_goals
    go_ret
    refine ⟨Cls.ret_b ?_, below_alloc HB3.out _⟩
    clear HAW HS HR HM HB HB2 HB3
    simp_all [stN, stK]
end Go.Proofs.YtadlaaddpobhbaaDoor.quotingStates
