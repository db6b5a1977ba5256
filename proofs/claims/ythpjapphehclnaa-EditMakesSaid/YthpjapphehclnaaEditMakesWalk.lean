/-
  The walk of the law EditMakes: it returns true, whatever its arguments. Conditions: none (arguments as the row reads them).
-/
import Derived.Test.YthpjapphehclnaaEdit6
import Derived.Deep.RegionWith
namespace Go.Proofs.Ythpjapphehclnaa.editMakes
open Go.ChangeShapes Go.WideShapes Go.ChangeAt Go.RowKit
theorem make_bad (s i : List UInt8) (f t : Int) (w : World) (_hs : s.length ≤ 1048576) (h : f < 0 ∨ t < f ∨ (s.length : Int) < t) :
    Calls Try.prog 17 #[.string (B s), .int .i64 f, .int .i64 t, .string (B i)] w fun e w' => e = .returned (.tuple #[Edit 0 [] [], .int .i64 1]) ∧ Below w.heap.size w w' := by
  unfold Edit
  by_cases h1 : f < 0
  · clear h
    go_enter Try.func17, Try.ntmps17
    go_wp2
    exact bodyPost_ret (v := .tuple #[.agg #[.int .i64 0, .string (B []), .string (B [])], .int .i64 1]) (by simp [results, Try.results17, go_sem]) rfl ⟨rfl, by (repeat (first | exact Below.refl _ _ | assumption | with_reducible refine below_alloc ?_ _ | with_reducible refine below_grow ?_ _ | with_reducible refine below_drewN ?_ _ | with_reducible refine below_drew ?_ | with_reducible refine below_setCell ?_ (by first | (dsimp only; omega) | (simp; done) | (simp; omega)) _))⟩
  · have h1' := no h1
    by_cases h2 : t < f
    · clear h
      go_enter Try.func17, Try.ntmps17
      go_wp2
      exact bodyPost_ret (v := .tuple #[.agg #[.int .i64 0, .string (B []), .string (B [])], .int .i64 1]) (by simp [results, Try.results17, go_sem]) rfl ⟨rfl, by (repeat (first | exact Below.refl _ _ | assumption | with_reducible refine below_alloc ?_ _ | with_reducible refine below_grow ?_ _ | with_reducible refine below_drewN ?_ _ | with_reducible refine below_drew ?_ | with_reducible refine below_setCell ?_ (by first | (dsimp only; omega) | (simp; done) | (simp; omega)) _))⟩
    · have h2' := no h2
      have h3 : (s.length : Int) < t := by omega
      clear h
      go_enter Try.func17, Try.ntmps17
      go_wp2
      exact bodyPost_ret (v := .tuple #[.agg #[.int .i64 0, .string (B []), .string (B [])], .int .i64 1]) (by simp [results, Try.results17, go_sem]) rfl ⟨rfl, by (repeat (first | exact Below.refl _ _ | assumption | with_reducible refine below_alloc ?_ _ | with_reducible refine below_grow ?_ _ | with_reducible refine below_drewN ?_ _ | with_reducible refine below_drew ?_ | with_reducible refine below_setCell ?_ (by first | (dsimp only; omega) | (simp; done) | (simp; omega)) _))⟩
theorem walk {H : Type} (enc : TypeId × Value → H) (w : World) (base : Nat) {v0 v1 v2 v3 : Value} {d0 d1 d2 d3 : DataW H} {p0 p1 p2 p3 : List MemPlace}
    (h0 : DataW.Trod enc Try.prog w 0 (fun _ => true) true 9 v0 d0 p0) (k0 : Value.okWide Try.prog w .any base 9 v0)
    (h1 : DataW.Trod enc Try.prog w 0 (fun _ => true) true 3 v1 d1 p1) (k1 : Value.okWide Try.prog w .any base 3 v1)
    (h2 : DataW.Trod enc Try.prog w 0 (fun _ => true) true 3 v2 d2 p2) (k2 : Value.okWide Try.prog w .any base 3 v2)
    (h3 : DataW.Trod enc Try.prog w 0 (fun _ => true) true 9 v3 d3 p3) (k3 : Value.okWide Try.prog w .any base 9 v3) :
    Calls Try.prog 5 #[v0, v1, v2, v3] w fun e w' => e = .returned (.bool true) ∧ Below w.heap.size w w' := by
  obtain ⟨s, rfl, hs⟩ := open_text h0 k0
  obtain ⟨f, rfl, hf⟩ := open_num h1 k1
  obtain ⟨t, rfl, ht⟩ := open_num h2 k2
  obtain ⟨i, rfl, hi⟩ := open_text h3 k3
  clear h0 k0 h1 k1 h2 k2 h3 k3
  by_cases l1 : 300 < s.length
  · go_enter Try.func5, Try.ntmps5
    go_wp2_with (go_at_call 9; refine (awake_any _).mono ?_; rintro e w' ⟨rfl, hb⟩; obtain ⟨g, rfl⟩ := to_grow hb; clear hb)
    go_ret
    exact ⟨rfl, by (repeat (first | exact Below.refl _ _ | assumption | with_reducible refine below_alloc ?_ _ | with_reducible refine below_grow ?_ _ | with_reducible refine below_drewN ?_ _ | with_reducible refine below_drew ?_ | with_reducible refine below_setCell ?_ (by first | (dsimp only; omega) | (simp; done) | (simp; omega)) _))⟩
  by_cases l3 : 300 < i.length
  · go_enter Try.func5, Try.ntmps5
    go_wp2_with (go_at_call 9; refine (awake_any _).mono ?_; rintro e w' ⟨rfl, hb⟩; obtain ⟨g, rfl⟩ := to_grow hb; clear hb)
    go_ret
    exact ⟨rfl, by (repeat (first | exact Below.refl _ _ | assumption | with_reducible refine below_alloc ?_ _ | with_reducible refine below_grow ?_ _ | with_reducible refine below_drewN ?_ _ | with_reducible refine below_drew ?_ | with_reducible refine below_setCell ?_ (by first | (dsimp only; omega) | (simp; done) | (simp; omega)) _))⟩
  have b1 : s.length ≤ 300 := by omega
  have b3 : i.length ≤ 300 := by omega
  by_cases h : f < 0 ∨ t < f ∨ (s.length : Int) < t
  · have HM := Lib.hid fun w => make_bad s i f t w (by omega) h
    by_cases c1 : f < 0
    · clear h
      go_enter Try.func5, Try.ntmps5
      go_wp2_with (first | (go_at_call 9; refine (awake_any _).mono ?_; rintro e w' ⟨rfl, hb⟩; obtain ⟨g, rfl⟩ := to_grow hb; clear hb) | (go_at_call 17; refine (HM.out _).mono ?_; rintro e w' ⟨rfl, hb⟩; obtain ⟨g, rfl⟩ := to_grow hb; clear hb))
      go_ret
      exact ⟨rfl, by (repeat (first | exact Below.refl _ _ | assumption | with_reducible refine below_alloc ?_ _ | with_reducible refine below_grow ?_ _ | with_reducible refine below_drewN ?_ _ | with_reducible refine below_drew ?_ | with_reducible refine below_setCell ?_ (by first | (dsimp only; omega) | (simp; done) | (simp; omega)) _))⟩
    · have c1' := no c1
      by_cases c2 : t < f
      · clear h
        go_enter Try.func5, Try.ntmps5
        go_wp2_with (first | (go_at_call 9; refine (awake_any _).mono ?_; rintro e w' ⟨rfl, hb⟩; obtain ⟨g, rfl⟩ := to_grow hb; clear hb) | (go_at_call 17; refine (HM.out _).mono ?_; rintro e w' ⟨rfl, hb⟩; obtain ⟨g, rfl⟩ := to_grow hb; clear hb))
        go_ret
        exact ⟨rfl, by (repeat (first | exact Below.refl _ _ | assumption | with_reducible refine below_alloc ?_ _ | with_reducible refine below_grow ?_ _ | with_reducible refine below_drewN ?_ _ | with_reducible refine below_drew ?_ | with_reducible refine below_setCell ?_ (by first | (dsimp only; omega) | (simp; done) | (simp; omega)) _))⟩
      · have c2' := no c2
        have c3 : (s.length : Int) < t := by omega
        clear h
        go_enter Try.func5, Try.ntmps5
        go_wp2_with (first | (go_at_call 9; refine (awake_any _).mono ?_; rintro e w' ⟨rfl, hb⟩; obtain ⟨g, rfl⟩ := to_grow hb; clear hb) | (go_at_call 17; refine (HM.out _).mono ?_; rintro e w' ⟨rfl, hb⟩; obtain ⟨g, rfl⟩ := to_grow hb; clear hb))
        go_ret
        exact ⟨rfl, by (repeat (first | exact Below.refl _ _ | assumption | with_reducible refine below_alloc ?_ _ | with_reducible refine below_grow ?_ _ | with_reducible refine below_drewN ?_ _ | with_reducible refine below_drew ?_ | with_reducible refine below_setCell ?_ (by first | (dsimp only; omega) | (simp; done) | (simp; omega)) _))⟩
  · obtain ⟨f, rfl⟩ := Int.eq_ofNat_of_zero_le (by omega : 0 ≤ f)
    obtain ⟨t, rfl⟩ := Int.eq_ofNat_of_zero_le (by omega : 0 ≤ t)
    have c1 : f ≤ t := by omega
    have c2 : t ≤ s.length := by omega
    have HM := Lib.hid fun w => make_any s i f t w (by omega) (by omega) c1 c2 (by omega)
    have e1 := no (show ¬ t < f by omega)
    have e2 := no (show ¬ s.length < t by omega)
    clear h
    go_enter Try.func5, Try.ntmps5
    go_wp2_with (first | (go_at_call 9; refine (awake_any _).mono ?_; rintro e w' ⟨rfl, hb⟩; obtain ⟨g, rfl⟩ := to_grow hb; clear hb) | (go_at_call 17; refine (HM.out _).mono ?_; rintro e w' ⟨rfl, hb⟩; obtain ⟨g, rfl⟩ := to_grow hb; clear hb))
    go_quiet (fail)
    go_wp2
    go_ret
    exact ⟨rfl, by (repeat (first | exact Below.refl _ _ | assumption | with_reducible refine below_alloc ?_ _ | with_reducible refine below_grow ?_ _ | with_reducible refine below_drewN ?_ _ | with_reducible refine below_drew ?_ | with_reducible refine below_setCell ?_ (by first | (dsimp only; omega) | (simp; done) | (simp; omega)) _))⟩
end Go.Proofs.Ythpjapphehclnaa.editMakes
