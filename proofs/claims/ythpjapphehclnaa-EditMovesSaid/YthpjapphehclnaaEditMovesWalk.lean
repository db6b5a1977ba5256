/-
  The walk of the law EditMoves: it returns true, whatever its arguments. Conditions: none (arguments as the row reads them).
-/
import Derived.Test.YthpjapphehclnaaEdit6
import Derived.Deep.RegionWith
namespace Go.Proofs.Ythpjapphehclnaa.editMoves
open Go.ChangeShapes Go.WideShapes Go.ChangeAt Go.RowKit
/-- Where a place is behind an edit. -/
def moved (d i : List UInt8) (n k : Nat) (stick : Bool) : Int := if k < n then k else if n + d.length < k then (k : Int) - d.length + i.length else if stick then n + i.length else n
theorem plain (s d i : List UInt8) (n k : Nat) (stick : Bool) (hd : n + d.length ≤ s.length) (hk : k ≤ s.length) : ∃ m : Nat, moved d i n k stick = m ∧ m ≤ (does s n d i).length ∧
    (k < n ∨ n + d.length < k → (k = s.length → m = (does s n d i).length) ∧ (∀ (h : k < s.length), ∃ h' : m < (does s n d i).length, s[k] = (does s n d i)[m])) := by
  have hl : (does s n d i).length = s.length - d.length + i.length := by simp [does]; omega
  have hdo : does s n d i = s.take n ++ (i ++ s.drop (n + d.length)) := rfl
  unfold moved
  by_cases h1 : k < n
  · refine ⟨k, if_pos h1, by omega, fun _ => ⟨fun h => by omega, fun h => ⟨by omega, ?_⟩⟩⟩
    simp only [hdo]
    rw [List.getElem_append_left (by simp; omega)]
    simp
  · by_cases h2 : n + d.length < k
    · refine ⟨k - d.length + i.length, by rw [if_neg h1, if_pos h2]; omega, by omega, fun _ => ⟨fun h => by omega, fun h => ⟨by omega, ?_⟩⟩⟩
      simp only [hdo]
      rw [List.getElem_append_right (by simp; omega), List.getElem_append_right (by simp; omega)]
      simp only [List.getElem_drop, List.length_take]
      congr 1
      omega
    · cases stick
      · exact ⟨n, by simp [h1, h2], by omega, fun h => by omega⟩
      · exact ⟨n + i.length, by simp [h1, h2], by omega, fun h => by omega⟩
set_option maxRecDepth 100000 in
set_option maxHeartbeats 3200000 in
theorem walk {H : Type} (enc : TypeId × Value → H) (w : World) (base : Nat) {v0 v1 v2 v3 : Value} {d0 d1 d2 d3 : DataW H} {p0 p1 p2 p3 : List MemPlace}
    (h0 : DataW.Trod enc Try.prog w 0 (fun _ => true) true 9 v0 d0 p0) (k0 : Value.okWide Try.prog w .any base 9 v0)
    (h1 : DataW.Trod enc Try.prog w 0 (fun _ => true) true 24 v1 d1 p1) (k1 : Value.okWide Try.prog w .any base 24 v1)
    (h2 : DataW.Trod enc Try.prog w 0 (fun _ => true) true 37 v2 d2 p2) (k2 : Value.okWide Try.prog w .any base 37 v2)
    (h3 : DataW.Trod enc Try.prog w 0 (fun _ => true) true 4 v3 d3 p3) (k3 : Value.okWide Try.prog w .any base 4 v3) :
    Calls Try.prog 6 #[v0, v1, v2, v3] w fun e w' => e = .returned (.bool true) ∧ Below w.heap.size w w' := by
  obtain ⟨s, rfl, hs⟩ := open_text h0 k0
  obtain ⟨at_, d, i, rfl, ha, hd, hi⟩ := open_edit h1 k1
  obtain ⟨k, rfl, rfl, rfl, wk⟩ := open_int Try.underlying37 k2 h2
  have hk := bounds_u16 wk
  obtain ⟨stick, rfl⟩ := open_yes h3 k3
  clear h0 k0 h1 k1 h2 k2 h3 k3 wk
  by_cases l1 : 300 < s.length
  · go_enter Try.func6, Try.ntmps6
    go_wp2_with (go_at_call 9; refine (awake_any _).mono ?_; rintro e w' ⟨rfl, hb⟩; obtain ⟨g, rfl⟩ := to_grow hb; clear hb)
    go_ret
    exact ⟨rfl, by (repeat (first | exact Below.refl _ _ | assumption | with_reducible refine below_alloc ?_ _ | with_reducible refine below_grow ?_ _ | with_reducible refine below_drewN ?_ _ | with_reducible refine below_drew ?_ | with_reducible refine below_setCell ?_ (by first | (dsimp only; omega) | (simp; done) | (simp; omega)) _))⟩
  by_cases l2 : 300 < d.length
  · go_enter Try.func6, Try.ntmps6
    go_wp2_with (go_at_call 9; refine (awake_any _).mono ?_; rintro e w' ⟨rfl, hb⟩; obtain ⟨g, rfl⟩ := to_grow hb; clear hb)
    go_ret
    exact ⟨rfl, by (repeat (first | exact Below.refl _ _ | assumption | with_reducible refine below_alloc ?_ _ | with_reducible refine below_grow ?_ _ | with_reducible refine below_drewN ?_ _ | with_reducible refine below_drew ?_ | with_reducible refine below_setCell ?_ (by first | (dsimp only; omega) | (simp; done) | (simp; omega)) _))⟩
  by_cases l3 : 300 < i.length
  · go_enter Try.func6, Try.ntmps6
    go_wp2_with (go_at_call 9; refine (awake_any _).mono ?_; rintro e w' ⟨rfl, hb⟩; obtain ⟨g, rfl⟩ := to_grow hb; clear hb)
    go_ret
    exact ⟨rfl, by (repeat (first | exact Below.refl _ _ | assumption | with_reducible refine below_alloc ?_ _ | with_reducible refine below_grow ?_ _ | with_reducible refine below_drewN ?_ _ | with_reducible refine below_drew ?_ | with_reducible refine below_setCell ?_ (by first | (dsimp only; omega) | (simp; done) | (simp; omega)) _))⟩
  have b1 : s.length ≤ 300 := by omega
  have b2 : d.length ≤ 300 := by omega
  have b3 : i.length ≤ 300 := by omega
  have W : ∀ w, Calls Try.prog 13 #[.string (B s), Edit at_ d i] w fun e w' => e = .returned (.int .i64 (wrong s at_ d i)) ∧ Below w.heap.size w w' := fun w => refWrong_any s d i at_ w (by omega) (by omega) (by omega)
  have HW := Lib.hid W
  clear W
  by_cases hz : wrong s at_ d i = 0
  · obtain ⟨n, rfl, hn, _, hn3⟩ := wrong_zero hz
    obtain ⟨k, rfl⟩ := Int.eq_ofNat_of_zero_le (by omega : 0 ≤ k)
    obtain ⟨q, hq⟩ : ∃ q, q = k % (s.length + 1) := ⟨_, rfl⟩
    have hql : q ≤ s.length := by have := Nat.mod_lt k (show 0 < s.length + 1 by omega); omega
    have hqi : (k : Int) % ((s.length : Int) + 1) = (q : Int) := by subst hq; push_cast; rfl
    obtain ⟨m, hm, hml, hmm⟩ := plain s d i n q stick hn hql
    have bt : (does s n d i).length ≤ 600 := by simp [does]; omega
    have R' : ∀ w, Calls Try.prog 16 #[.string (B s), Edit n d i] w fun e w' => e = .returned (.string (B (does s n d i))) ∧ Below w.heap.size w w' := fun w =>
      refDo_any s d i n w (by omega) (by omega) (by omega)
    have M' : ∀ w, Calls Try.prog 18 #[Edit n d i, .int .i64 q, .bool stick] w fun e w' => e = .returned (.int .i64 m) ∧ Below w.heap.size w w' := fun w => by rw [← hm]; exact move_any d i n q stick w (by omega) (by omega) (by omega) (by omega)
    have N' : ∀ w, Calls Try.prog 19 #[Edit n d i, .int .i64 q, .bool stick] w fun e w' => e = .returned (.int .i64 m) ∧ Below w.heap.size w w' := fun w => by rw [← hm]; exact refMove_any d i n q stick w (by omega) (by omega) (by omega) (by omega)
    have W' : ∀ w, Calls Try.prog 13 #[.string (B s), Edit n d i] w fun e w' => e = .returned (.int .i64 0) ∧ Below w.heap.size w w' := fun w => (HW.out w).mono fun e w' h => ⟨by rw [h.1, hz], h.2⟩
    have HR := Lib.hid R'
    have HM := Lib.hid M'
    have HN := Lib.hid N'
    have HW' := Lib.hid W'
    clear R' M' N' W' HW hz hm
    generalize does s n d i = t at *
    have v1 : IntKind.i64.wrap ((s.length : Int) + 1) = (s.length : Int) + 1 := IntWalk.i64_in _ (by omega)
    have u1 := no (show ¬ t.length < m by omega)
    clear hq
    by_cases c : q < n ∨ n + d.length < q
    · have hc := hmm c
      have Hc := Lib.hid hc
      clear hmm hc
      by_cases e : q = s.length
      · have e2 := Hc.out.1 e
        subst e
        subst e2
        by_cases c1 : s.length < n
        · omega
        · have c1' := no c1
          have c2 : (n : Int) + (d.length : Int) < (s.length : Int) := by omega
          clear c
          go_enter Try.func6, Try.ntmps6
          go_wp2_with (first | (go_at_call 9; refine (awake_any _).mono ?_; rintro e w' ⟨rfl, hb⟩; obtain ⟨g, rfl⟩ := to_grow hb; clear hb) | (go_at_call 13; refine (HW'.out _).mono ?_; rintro e w' ⟨rfl, hb⟩; obtain ⟨g, rfl⟩ := to_grow hb; clear hb) | (go_at_call 16; refine (HR.out _).mono ?_; rintro e w' ⟨rfl, hb⟩; obtain ⟨g, rfl⟩ := to_grow hb; clear hb) | (go_at_call 18; refine (HM.out _).mono ?_; rintro e w' ⟨rfl, hb⟩; obtain ⟨g, rfl⟩ := to_grow hb; clear hb) | (go_at_call 19; refine (HN.out _).mono ?_; rintro e w' ⟨rfl, hb⟩; obtain ⟨g, rfl⟩ := to_grow hb; clear hb))
          go_quiet (fail)
          go_wp2
          go_ret
          exact ⟨rfl, by (repeat (first | exact Below.refl _ _ | assumption | with_reducible refine below_alloc ?_ _ | with_reducible refine below_grow ?_ _ | with_reducible refine below_drewN ?_ _ | with_reducible refine below_drew ?_ | with_reducible refine below_setCell ?_ (by first | (dsimp only; omega) | (simp; done) | (simp; omega)) _))⟩
      · have e1 : ((q : Int) == (s.length : Int)) = false := by simp; omega
        have e2 : q < s.length := by omega
        obtain ⟨e3, e4⟩ := Hc.out.2 e2
        clear e
        by_cases c1 : q < n
        · clear c
          go_enter Try.func6, Try.ntmps6
          go_wp2_with (first | (go_at_call 9; refine (awake_any _).mono ?_; rintro e w' ⟨rfl, hb⟩; obtain ⟨g, rfl⟩ := to_grow hb; clear hb) | (go_at_call 13; refine (HW'.out _).mono ?_; rintro e w' ⟨rfl, hb⟩; obtain ⟨g, rfl⟩ := to_grow hb; clear hb) | (go_at_call 16; refine (HR.out _).mono ?_; rintro e w' ⟨rfl, hb⟩; obtain ⟨g, rfl⟩ := to_grow hb; clear hb) | (go_at_call 18; refine (HM.out _).mono ?_; rintro e w' ⟨rfl, hb⟩; obtain ⟨g, rfl⟩ := to_grow hb; clear hb) | (go_at_call 19; refine (HN.out _).mono ?_; rintro e w' ⟨rfl, hb⟩; obtain ⟨g, rfl⟩ := to_grow hb; clear hb))
          go_quiet (fail)
          go_wp2
          go_ret
          exact ⟨rfl, by (repeat (first | exact Below.refl _ _ | assumption | with_reducible refine below_alloc ?_ _ | with_reducible refine below_grow ?_ _ | with_reducible refine below_drewN ?_ _ | with_reducible refine below_drew ?_ | with_reducible refine below_setCell ?_ (by first | (dsimp only; omega) | (simp; done) | (simp; omega)) _))⟩
        · have c1' := no c1
          have c2 : (n : Int) + (d.length : Int) < (q : Int) := by omega
          clear c
          go_enter Try.func6, Try.ntmps6
          go_wp2_with (first | (go_at_call 9; refine (awake_any _).mono ?_; rintro e w' ⟨rfl, hb⟩; obtain ⟨g, rfl⟩ := to_grow hb; clear hb) | (go_at_call 13; refine (HW'.out _).mono ?_; rintro e w' ⟨rfl, hb⟩; obtain ⟨g, rfl⟩ := to_grow hb; clear hb) | (go_at_call 16; refine (HR.out _).mono ?_; rintro e w' ⟨rfl, hb⟩; obtain ⟨g, rfl⟩ := to_grow hb; clear hb) | (go_at_call 18; refine (HM.out _).mono ?_; rintro e w' ⟨rfl, hb⟩; obtain ⟨g, rfl⟩ := to_grow hb; clear hb) | (go_at_call 19; refine (HN.out _).mono ?_; rintro e w' ⟨rfl, hb⟩; obtain ⟨g, rfl⟩ := to_grow hb; clear hb))
          go_quiet (fail)
          go_wp2
          go_ret
          exact ⟨rfl, by (repeat (first | exact Below.refl _ _ | assumption | with_reducible refine below_alloc ?_ _ | with_reducible refine below_grow ?_ _ | with_reducible refine below_drewN ?_ _ | with_reducible refine below_drew ?_ | with_reducible refine below_setCell ?_ (by first | (dsimp only; omega) | (simp; done) | (simp; omega)) _))⟩
    · have c1 := no (show ¬ q < n by omega)
      have c2 := no (show ¬ (n : Int) + (d.length : Int) < (q : Int) by omega)
      clear c hmm
      go_enter Try.func6, Try.ntmps6
      go_wp2_with (first | (go_at_call 9; refine (awake_any _).mono ?_; rintro e w' ⟨rfl, hb⟩; obtain ⟨g, rfl⟩ := to_grow hb; clear hb) | (go_at_call 13; refine (HW'.out _).mono ?_; rintro e w' ⟨rfl, hb⟩; obtain ⟨g, rfl⟩ := to_grow hb; clear hb) | (go_at_call 16; refine (HR.out _).mono ?_; rintro e w' ⟨rfl, hb⟩; obtain ⟨g, rfl⟩ := to_grow hb; clear hb) | (go_at_call 18; refine (HM.out _).mono ?_; rintro e w' ⟨rfl, hb⟩; obtain ⟨g, rfl⟩ := to_grow hb; clear hb) | (go_at_call 19; refine (HN.out _).mono ?_; rintro e w' ⟨rfl, hb⟩; obtain ⟨g, rfl⟩ := to_grow hb; clear hb))
      go_ret
      exact ⟨rfl, by (repeat (first | exact Below.refl _ _ | assumption | with_reducible refine below_alloc ?_ _ | with_reducible refine below_grow ?_ _ | with_reducible refine below_drewN ?_ _ | with_reducible refine below_drew ?_ | with_reducible refine below_setCell ?_ (by first | (dsimp only; omega) | (simp; done) | (simp; omega)) _))⟩
  · have z2 : (wrong s at_ d i != 0) = true := by simpa using hz
    generalize wrong s at_ d i = n at *
    clear hz
    go_enter Try.func6, Try.ntmps6
    go_wp2_with (first | (go_at_call 9; refine (awake_any _).mono ?_; rintro e w' ⟨rfl, hb⟩; obtain ⟨g, rfl⟩ := to_grow hb; clear hb) | (go_at_call 13; refine (HW.out _).mono ?_; rintro e w' ⟨rfl, hb⟩; obtain ⟨g, rfl⟩ := to_grow hb; clear hb))
    go_ret
    exact ⟨rfl, by (repeat (first | exact Below.refl _ _ | assumption | with_reducible refine below_alloc ?_ _ | with_reducible refine below_grow ?_ _ | with_reducible refine below_drewN ?_ _ | with_reducible refine below_drew ?_ | with_reducible refine below_setCell ?_ (by first | (dsimp only; omega) | (simp; done) | (simp; omega)) _))⟩
end Go.Proofs.Ythpjapphehclnaa.editMoves
