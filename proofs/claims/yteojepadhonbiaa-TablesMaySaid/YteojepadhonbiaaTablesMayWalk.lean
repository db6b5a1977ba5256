/-
  The walk of the law TablesMay: it returns true, whatever its arguments. Conditions: none (arguments as the row reads them).
-/
import Derived.Test.YteojepadhonbiaaTab4
import Derived.Test.YteojepadhonbiaaOpen
namespace Go.Proofs.Yteojepadhonbiaa.tablesMay
open Go.ChangeShapes Go.WideShapes Go.Deep Go.ChangeAt Go.RowKit
set_option maxRecDepth 100000
theorem walk {H : Type} (enc : TypeId × Value → H) (w : World) (base : Nat) {v0 v1 : Value} {d0 d1 : DataW H} {p0 p1 : List MemPlace}
    (h0 : DataW.Trod enc Try.prog w 0 (fun _ => true) true 3 v0 d0 p0) (k0 : Value.okWide Try.prog w .any base 3 v0)
    (h1 : DataW.Trod enc Try.prog w 0 (fun _ => true) true 9 v1 d1 p1) (k1 : Value.okWide Try.prog w .any base 9 v1) :
    Calls Try.prog 3 #[v0, v1] w fun e w' => e = .returned (.bool true) ∧ Below w.heap.size w w' := by
  obtain ⟨kind, rfl, hk1, hk2⟩ := open_num h0 k0
  obtain ⟨s, rfl, hs⟩ := open_text h1 k1
  clear h0 k0 h1 k1
  have HAW := Lib.hid fun w => Tab.awake19_any w
  by_cases l1 : 100 < s.length
  · go_enter Try.func3, Try.ntmps3
    go_wp2_with (go_at_call 16; refine (HAW.out _).mono ?_; rintro e w' ⟨rfl, hb⟩; obtain ⟨g, rfl⟩ := to_grow hb; clear hb)
    go_ret
    exact ⟨rfl, by (repeat (first | with_reducible exact Below.refl _ _ | with_reducible assumption | with_reducible refine below_alloc ?_ _ | with_reducible refine below_grow ?_ _ | with_reducible refine below_drewN ?_ _ | with_reducible refine below_drew ?_ | with_reducible refine below_setCell ?_ (by first | (dsimp only; omega) | (simp; done) | (simp; omega)) _))⟩
  have d1 := no (show ¬ (100 : Int) < (s.length : Int) by omega)
  have HM := Lib.hid fun w => Cls.may_any kind s w (by omega)
  have HR := Lib.hid fun w => Cls.refMay_any kind s w (by omega)
  clear l1
  go_enter Try.func3, Try.ntmps3
  go_wp2_with (first | (go_at_call 16; refine (HAW.out _).mono ?_; rintro e w' ⟨rfl, hb⟩; obtain ⟨g, rfl⟩ := to_grow hb; clear hb) | (go_at_call 17; refine (HM.out _).mono ?_; rintro e w' ⟨rfl, rfl⟩) | (go_at_call 18; refine (HR.out _).mono ?_; rintro e w' ⟨rfl, rfl⟩))
  go_ret
  exact ⟨Cls.ret_b (by simp), by (repeat (first | with_reducible exact Below.refl _ _ | with_reducible assumption | with_reducible refine below_alloc ?_ _ | with_reducible refine below_grow ?_ _ | with_reducible refine below_drewN ?_ _ | with_reducible refine below_drew ?_ | with_reducible refine below_setCell ?_ (by first | (dsimp only; omega) | (simp; done) | (simp; omega)) _))⟩
end Go.Proofs.Yteojepadhonbiaa.tablesMay
