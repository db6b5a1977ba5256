/-
  The walk of the law EditJoins: it returns true, whatever its arguments. Conditions: none (arguments as the row reads them).
-/
import Derived.Test.YthpjapphehclnaaEdit6
import Derived.Test.YthpjapphehclnaaEditJoinPlain
import Derived.Deep.RegionWith
namespace Go.Proofs.Ythpjapphehclnaa.editJoins
open Go.ChangeShapes Go.WideShapes Go.ChangeAt Go.RowKit
set_option maxRecDepth 100000 in
set_option maxHeartbeats 3200000 in
theorem walk {H : Type} (enc : TypeId × Value → H) (w : World) (base : Nat) {v0 v1 v2 : Value} {d0 d1 d2 : DataW H} {p0 p1 p2 : List MemPlace}
    (h0 : DataW.Trod enc Try.prog w 0 (fun _ => true) true 9 v0 d0 p0) (k0 : Value.okWide Try.prog w .any base 9 v0)
    (h1 : DataW.Trod enc Try.prog w 0 (fun _ => true) true 24 v1 d1 p1) (k1 : Value.okWide Try.prog w .any base 24 v1)
    (h2 : DataW.Trod enc Try.prog w 0 (fun _ => true) true 24 v2 d2 p2) (k2 : Value.okWide Try.prog w .any base 24 v2) :
    Calls Try.prog 8 #[v0, v1, v2] w fun e w' => e = .returned (.bool true) ∧ Below w.heap.size w w' := by
  obtain ⟨s, rfl, hs⟩ := open_text h0 k0
  obtain ⟨at_, d, i, rfl, ha, hd, hi⟩ := open_edit h1 k1
  obtain ⟨bt_, d', i', rfl, ha', hd', hi'⟩ := open_edit h2 k2
  clear h0 k0 h1 k1 h2 k2
  by_cases l1 : 300 < s.length
  · go_enter Try.func8, Try.ntmps8
    go_wp2_with (go_at_call 9; refine (awake_any _).mono ?_; rintro e w' ⟨rfl, hb⟩; obtain ⟨g, rfl⟩ := to_grow hb; clear hb)
    go_ret
    exact ⟨rfl, by (repeat (first | exact Below.refl _ _ | assumption | with_reducible refine below_alloc ?_ _ | with_reducible refine below_grow ?_ _ | with_reducible refine below_drewN ?_ _ | with_reducible refine below_drew ?_ | with_reducible refine below_setCell ?_ (by first | (dsimp only; omega) | (simp; done) | (simp; omega)) _))⟩
  by_cases l2 : 300 < d.length
  · go_enter Try.func8, Try.ntmps8
    go_wp2_with (go_at_call 9; refine (awake_any _).mono ?_; rintro e w' ⟨rfl, hb⟩; obtain ⟨g, rfl⟩ := to_grow hb; clear hb)
    go_ret
    exact ⟨rfl, by (repeat (first | exact Below.refl _ _ | assumption | with_reducible refine below_alloc ?_ _ | with_reducible refine below_grow ?_ _ | with_reducible refine below_drewN ?_ _ | with_reducible refine below_drew ?_ | with_reducible refine below_setCell ?_ (by first | (dsimp only; omega) | (simp; done) | (simp; omega)) _))⟩
  by_cases l3 : 300 < i.length
  · go_enter Try.func8, Try.ntmps8
    go_wp2_with (go_at_call 9; refine (awake_any _).mono ?_; rintro e w' ⟨rfl, hb⟩; obtain ⟨g, rfl⟩ := to_grow hb; clear hb)
    go_ret
    exact ⟨rfl, by (repeat (first | exact Below.refl _ _ | assumption | with_reducible refine below_alloc ?_ _ | with_reducible refine below_grow ?_ _ | with_reducible refine below_drewN ?_ _ | with_reducible refine below_drew ?_ | with_reducible refine below_setCell ?_ (by first | (dsimp only; omega) | (simp; done) | (simp; omega)) _))⟩
  by_cases l4 : 300 < d'.length
  · go_enter Try.func8, Try.ntmps8
    go_wp2_with (go_at_call 9; refine (awake_any _).mono ?_; rintro e w' ⟨rfl, hb⟩; obtain ⟨g, rfl⟩ := to_grow hb; clear hb)
    go_ret
    exact ⟨rfl, by (repeat (first | exact Below.refl _ _ | assumption | with_reducible refine below_alloc ?_ _ | with_reducible refine below_grow ?_ _ | with_reducible refine below_drewN ?_ _ | with_reducible refine below_drew ?_ | with_reducible refine below_setCell ?_ (by first | (dsimp only; omega) | (simp; done) | (simp; omega)) _))⟩
  by_cases l5 : 300 < i'.length
  · go_enter Try.func8, Try.ntmps8
    go_wp2_with (go_at_call 9; refine (awake_any _).mono ?_; rintro e w' ⟨rfl, hb⟩; obtain ⟨g, rfl⟩ := to_grow hb; clear hb)
    go_ret
    exact ⟨rfl, by (repeat (first | exact Below.refl _ _ | assumption | with_reducible refine below_alloc ?_ _ | with_reducible refine below_grow ?_ _ | with_reducible refine below_drewN ?_ _ | with_reducible refine below_drew ?_ | with_reducible refine below_setCell ?_ (by first | (dsimp only; omega) | (simp; done) | (simp; omega)) _))⟩
  have b1 : s.length ≤ 300 := by omega
  have b2 : d.length ≤ 300 := by omega
  have b3 : i.length ≤ 300 := by omega
  have b4 : d'.length ≤ 300 := by omega
  have b5 : i'.length ≤ 300 := by omega
  have HW := Lib.hid fun w => refWrong_any s d i at_ w (by omega) (by omega) (by omega)
  by_cases hz : wrong s at_ d i = 0
  rotate_left
  · have z2 : (wrong s at_ d i != 0) = true := by simpa using hz
    generalize wrong s at_ d i = n at *
    clear hz
    go_enter Try.func8, Try.ntmps8
    go_wp2_with (first | (go_at_call 9; refine (awake_any _).mono ?_; rintro e w' ⟨rfl, hb⟩; obtain ⟨g, rfl⟩ := to_grow hb; clear hb) | (go_at_call 13; refine (HW.out _).mono ?_; rintro e w' ⟨rfl, hb⟩; obtain ⟨g, rfl⟩ := to_grow hb; clear hb))
    go_ret
    exact ⟨rfl, by (repeat (first | exact Below.refl _ _ | assumption | with_reducible refine below_alloc ?_ _ | with_reducible refine below_grow ?_ _ | with_reducible refine below_drewN ?_ _ | with_reducible refine below_drew ?_ | with_reducible refine below_setCell ?_ (by first | (dsimp only; omega) | (simp; done) | (simp; omega)) _))⟩
  obtain ⟨n, rfl, hn, _, hn3⟩ := wrong_zero hz
  have sp1 := sp_of hz
  have bt : (does s n d i).length ≤ 600 := by simp [does]; omega
  have R' : ∀ w, Calls Try.prog 16 #[.string (B s), Edit n d i] w fun e w' => e = .returned (.string (B (does s n d i))) ∧ Below w.heap.size w w' := fun w =>
    refDo_any s d i n w (by omega) (by omega) (by omega)
  have W' : ∀ w, Calls Try.prog 13 #[.string (B s), Edit n d i] w fun e w' => e = .returned (.int .i64 0) ∧ Below w.heap.size w w' := fun w => (HW.out w).mono fun e w' h => ⟨by rw [h.1, hz], h.2⟩
  have HR := Lib.hid R'
  have HW1 := Lib.hid W'
  clear HW hz R' W'
  generalize does s n d i = t at *
  have HX := Lib.hid fun w => refWrong_any t d' i' bt_ w (by omega) (by omega) (by omega)
  by_cases hz : wrong t bt_ d' i' = 0
  rotate_left
  · have z2 : (wrong t bt_ d' i' != 0) = true := by simpa using hz
    generalize wrong t bt_ d' i' = n at *
    clear hz sp1
    go_enter Try.func8, Try.ntmps8
    go_wp2_with (first | (go_at_call 9; refine (awake_any _).mono ?_; rintro e w' ⟨rfl, hb⟩; obtain ⟨g, rfl⟩ := to_grow hb; clear hb) | (go_at_call_of 13 (Value.string (B s)); refine (HW1.out _).mono ?_; rintro e w' ⟨rfl, hb⟩; obtain ⟨g, rfl⟩ := to_grow hb; clear hb) | (go_at_call_of 13 (Value.string (B t)); refine (HX.out _).mono ?_; rintro e w' ⟨rfl, hb⟩; obtain ⟨g, rfl⟩ := to_grow hb; clear hb) | (go_at_call 16; refine (HR.out _).mono ?_; rintro e w' ⟨rfl, hb⟩; obtain ⟨g, rfl⟩ := to_grow hb; clear hb))
    go_ret
    exact ⟨rfl, by (repeat (first | exact Below.refl _ _ | assumption | with_reducible refine below_alloc ?_ _ | with_reducible refine below_grow ?_ _ | with_reducible refine below_drewN ?_ _ | with_reducible refine below_drew ?_ | with_reducible refine below_setCell ?_ (by first | (dsimp only; omega) | (simp; done) | (simp; omega)) _))⟩
  obtain ⟨m, rfl, hm, _, hm3⟩ := wrong_zero hz
  have sp2 := sp_of hz
  have br : (does t m d' i').length ≤ 1048576 := by simp [does]; omega
  have R' : ∀ w, Calls Try.prog 16 #[.string (B t), Edit m d' i'] w fun e w' => e = .returned (.string (B (does t m d' i'))) ∧ Below w.heap.size w w' := fun w =>
    refDo_any t d' i' m w (by omega) (by omega) (by omega)
  have W' : ∀ w, Calls Try.prog 13 #[.string (B t), Edit m d' i'] w fun e w' => e = .returned (.int .i64 0) ∧ Below w.heap.size w w' := fun w => (HX.out w).mono fun e w' h => ⟨by rw [h.1, hz], h.2⟩
  have HR2 := Lib.hid R'
  have HX2 := Lib.hid W'
  clear HX hz R' W'
  generalize does t m d' i' = r at *
  obtain ⟨j1, j2⟩ := join_law sp1 sp2
  have J' : ∀ w, Calls Try.prog 21 #[Edit n d i, Edit m d' i'] w fun e w' => e = .returned (joinV (join n d i m d' i')) ∧ Below w.heap.size w w' := fun w => join_any d i d' i' n m w (by omega) (by omega) (by omega) (by omega) (by omega) (by omega)
  clear sp1 sp2
  have v1 : IntKind.i64.wrap ((n : Int) + (i.length : Int)) = (n : Int) + (i.length : Int) := IntWalk.i64_in _ (by omega)
  have v2 : IntKind.i64.wrap ((m : Int) + (d'.length : Int)) = (m : Int) + (d'.length : Int) := IntWalk.i64_in _ (by omega)
  cases hj : join n d i m d' i' with
  | none =>
    have c := j1.1 hj
    have HJ := Lib.hid fun w => show Calls Try.prog 21 #[Edit n d i, Edit m d' i'] w fun e w' => e = .returned (.tuple #[Edit 0 [] [], .bool false]) ∧ Below w.heap.size w w' from (J' w).mono fun e w' h => ⟨by rw [h.1, hj]; rfl, h.2⟩
    clear J' j1 j2 hj
    by_cases c1 : (m : Int) ≤ (n : Int) + (i.length : Int)
    · have c2 := no (show ¬ (n : Int) ≤ (m : Int) + (d'.length : Int) by omega)
      clear c
      go_enter Try.func8, Try.ntmps8
      go_wp2_with (first | (go_at_call 9; refine (awake_any _).mono ?_; rintro e w' ⟨rfl, hb⟩; obtain ⟨g, rfl⟩ := to_grow hb; clear hb) | (go_at_call_of 13 (Value.string (B s)); refine (HW1.out _).mono ?_; rintro e w' ⟨rfl, hb⟩; obtain ⟨g, rfl⟩ := to_grow hb; clear hb) | (go_at_call_of 13 (Value.string (B t)); refine (HX2.out _).mono ?_; rintro e w' ⟨rfl, hb⟩; obtain ⟨g, rfl⟩ := to_grow hb; clear hb) | (go_at_call 16; refine (HR.out _).mono ?_; rintro e w' ⟨rfl, hb⟩; obtain ⟨g, rfl⟩ := to_grow hb; clear hb) | (go_at_call 21; refine (HJ.out _).mono ?_; rintro e w' ⟨rfl, hb⟩; obtain ⟨g, rfl⟩ := to_grow hb; clear hb))
      go_ret
      exact ⟨rfl, by (repeat (first | exact Below.refl _ _ | assumption | with_reducible refine below_alloc ?_ _ | with_reducible refine below_grow ?_ _ | with_reducible refine below_drewN ?_ _ | with_reducible refine below_drew ?_ | with_reducible refine below_setCell ?_ (by first | (dsimp only; omega) | (simp; done) | (simp; omega)) _))⟩
    · have c1' := no c1
      clear c
      go_enter Try.func8, Try.ntmps8
      go_wp2_with (first | (go_at_call 9; refine (awake_any _).mono ?_; rintro e w' ⟨rfl, hb⟩; obtain ⟨g, rfl⟩ := to_grow hb; clear hb) | (go_at_call_of 13 (Value.string (B s)); refine (HW1.out _).mono ?_; rintro e w' ⟨rfl, hb⟩; obtain ⟨g, rfl⟩ := to_grow hb; clear hb) | (go_at_call_of 13 (Value.string (B t)); refine (HX2.out _).mono ?_; rintro e w' ⟨rfl, hb⟩; obtain ⟨g, rfl⟩ := to_grow hb; clear hb) | (go_at_call 16; refine (HR.out _).mono ?_; rintro e w' ⟨rfl, hb⟩; obtain ⟨g, rfl⟩ := to_grow hb; clear hb) | (go_at_call 21; refine (HJ.out _).mono ?_; rintro e w' ⟨rfl, hb⟩; obtain ⟨g, rfl⟩ := to_grow hb; clear hb))
      go_ret
      exact ⟨rfl, by (repeat (first | exact Below.refl _ _ | assumption | with_reducible refine below_alloc ?_ _ | with_reducible refine below_grow ?_ _ | with_reducible refine below_drewN ?_ _ | with_reducible refine below_drew ?_ | with_reducible refine below_setCell ?_ (by first | (dsimp only; omega) | (simp; done) | (simp; omega)) _))⟩
  | some k =>
    obtain ⟨k, x, y⟩ := k
    obtain ⟨sp3, bk, bx, by'⟩ := j2 _ _ _ hj
    obtain ⟨z1, z2⟩ := of_sp sp3 br
    have c : ¬ (n + i.length < m ∨ m + d'.length < n) := fun h => by rw [j1.2 h] at hj; cases hj
    have HJ := Lib.hid fun w => show Calls Try.prog 21 #[Edit n d i, Edit m d' i'] w fun e w' => e = .returned (.tuple #[Edit k x y, .bool true]) ∧ Below w.heap.size w w' from (J' w).mono fun e w' h => ⟨by rw [h.1, hj]; rfl, h.2⟩
    have hW3 : ∀ w, Calls Try.prog 13 #[.string (B s), Edit k x y] w fun e w' => e = .returned (.int .i64 0) ∧ Below w.heap.size w w' := fun w => by rw [← z1]; exact refWrong_any s x y k w (by omega) (by omega) (by omega)
    obtain ⟨k', hk', hkx, _, _⟩ := wrong_zero z1
    have ek : k' = k := by omega
    subst ek
    have hR3 : ∀ w, Calls Try.prog 16 #[.string (B s), Edit k' x y] w fun e w' => e = .returned (.string (B r)) ∧ Below w.heap.size w w' := fun w => by rw [← z2]; exact refDo_any s x y k' w (by omega) (by omega) hkx
    have HW3 := Lib.hid hW3
    have HR3 := Lib.hid hR3
    have c1 : (m : Int) ≤ (n : Int) + (i.length : Int) := by omega
    have c2 : (n : Int) ≤ (m : Int) + (d'.length : Int) := by omega
    clear J' j1 j2 hj sp3 z1 z2 c hW3 hR3 hk'
    go_enter Try.func8, Try.ntmps8
    go_wp2_with (first | (go_at_call 9; refine (awake_any _).mono ?_; rintro e w' ⟨rfl, hb⟩; obtain ⟨g, rfl⟩ := to_grow hb; clear hb) | (go_at_call_of 13 (Value.string (B s)); refine (HW1.out _).mono ?_; rintro e w' ⟨rfl, hb⟩; obtain ⟨g, rfl⟩ := to_grow hb; clear hb) | (go_at_call_of 13 (Value.string (B t)); refine (HX2.out _).mono ?_; rintro e w' ⟨rfl, hb⟩; obtain ⟨g, rfl⟩ := to_grow hb; clear hb) | (go_at_call 16; refine (HR.out _).mono ?_; rintro e w' ⟨rfl, hb⟩; obtain ⟨g, rfl⟩ := to_grow hb; clear hb) | (go_at_call 21; refine (HJ.out _).mono ?_; rintro e w' ⟨rfl, hb⟩; obtain ⟨g, rfl⟩ := to_grow hb; clear hb))
    (refine wp_region_grow (by kernel_rfl) (by kernel_rfl) ?_; (repeat (go_big_quiet_step ((first | (go_at_call 13; exact grow_of (HW3.out _)) | (go_at_call_of 16 (Value.string (B s)); exact grow_of (HR3.out _)) | (go_at_call_of 16 (Value.string (B t)); exact grow_of (HR2.out _)))))); refine wpQuiet_nil ?_; intro _ hw'; obtain ⟨gq, hw''⟩ := hw'; subst hw'')
    go_wp2
    go_ret
    exact ⟨rfl, by (repeat (first | exact Below.refl _ _ | assumption | with_reducible refine below_alloc ?_ _ | with_reducible refine below_grow ?_ _ | with_reducible refine below_drewN ?_ _ | with_reducible refine below_drew ?_ | with_reducible refine below_setCell ?_ (by first | (dsimp only; omega) | (simp; done) | (simp; omega)) _))⟩
end Go.Proofs.Ythpjapphehclnaa.editJoins
