/-
  The walk of the law EditDoes: it returns true, whatever its arguments. Conditions: none (arguments as the row reads them).
-/
import Derived.Test.YthpjapphehclnaaEdit6
import Derived.Deep.RegionWith
namespace Go.Proofs.Ythpjapphehclnaa.editDoes
open Go.ChangeShapes Go.WideShapes Go.ChangeAt Go.RowKit
theorem back (s d i : List UInt8) (at_ : Int) (hs : s.length ≤ 300) (hw : wrong s at_ d i = 0) : wrong (does s at_ d i) at_ i d = 0 ∧ does (does s at_ d i) at_ i d = s := by
  obtain ⟨n, rfl, h1, h2, h3⟩ := wrong_zero hw
  have hp : (s.drop n).take d.length = d := by simpa [pre] using h2
  have e1 : List.drop n (does s n d i) = i ++ s.drop (n + d.length) := by
    unfold does
    simp only [Int.toNat_natCast]
    rw [List.drop_append_of_le_length (by simp; omega)]
    simp
  have e2 : List.take n (does s n d i) = s.take n := by
    unfold does
    simp only [Int.toNat_natCast]
    rw [List.take_append_of_le_length (by simp; omega)]
    simp [List.take_take]
  have e3 : (does s n d i).length = s.length - d.length + i.length := by simp [does]; omega
  constructor
  · unfold wrong
    rw [if_neg, if_neg]
    · rw [e3]; omega
    · rw [e3, Int.toNat_natCast, e1]; simp [pre]; omega
  · have e4 : does (does s n d i) n i d = (does s n d i).take n ++ (d ++ (does s n d i).drop (n + i.length)) := rfl
    rw [e4, e2, ← List.drop_drop, e1]
    simp only [List.drop_left]
    conv => rhs; rw [← List.take_append_drop n s, ← List.take_append_drop d.length (s.drop n), hp]
    simp
theorem walk {H : Type} (enc : TypeId × Value → H) (w : World) (base : Nat) {v0 v1 : Value} {d0 d1 : DataW H} {p0 p1 : List MemPlace}
    (h0 : DataW.Trod enc Try.prog w 0 (fun _ => true) true 9 v0 d0 p0) (k0 : Value.okWide Try.prog w .any base 9 v0)
    (h1 : DataW.Trod enc Try.prog w 0 (fun _ => true) true 24 v1 d1 p1) (k1 : Value.okWide Try.prog w .any base 24 v1) :
    Calls Try.prog 4 #[v0, v1] w fun e w' => e = .returned (.bool true) ∧ Below w.heap.size w w' := by
  obtain ⟨s, rfl, hs⟩ := open_text h0 k0
  obtain ⟨at_, d, i, rfl, ha, hd, hi⟩ := open_edit h1 k1
  clear h0 k0 h1 k1
  have gs : ∀ k : Nat, (k : Int) ≤ 300 → k ≤ 300 := fun k h => by omega
  by_cases l1 : 300 < s.length
  · go_enter Try.func4, Try.ntmps4
    go_wp2_with (go_at_call 9; refine (awake_any _).mono ?_; rintro e w' ⟨rfl, hb⟩; obtain ⟨g, rfl⟩ := to_grow hb; clear hb)
    go_ret
    exact ⟨rfl, by (repeat (first | exact Below.refl _ _ | assumption | with_reducible refine below_alloc ?_ _ | with_reducible refine below_grow ?_ _ | with_reducible refine below_drewN ?_ _ | with_reducible refine below_drew ?_ | with_reducible refine below_setCell ?_ (by first | (dsimp only; omega) | (simp; done) | (simp; omega)) _))⟩
  by_cases l2 : 300 < d.length
  · go_enter Try.func4, Try.ntmps4
    go_wp2_with (go_at_call 9; refine (awake_any _).mono ?_; rintro e w' ⟨rfl, hb⟩; obtain ⟨g, rfl⟩ := to_grow hb; clear hb)
    go_ret
    exact ⟨rfl, by (repeat (first | exact Below.refl _ _ | assumption | with_reducible refine below_alloc ?_ _ | with_reducible refine below_grow ?_ _ | with_reducible refine below_drewN ?_ _ | with_reducible refine below_drew ?_ | with_reducible refine below_setCell ?_ (by first | (dsimp only; omega) | (simp; done) | (simp; omega)) _))⟩
  by_cases l3 : 300 < i.length
  · go_enter Try.func4, Try.ntmps4
    go_wp2_with (go_at_call 9; refine (awake_any _).mono ?_; rintro e w' ⟨rfl, hb⟩; obtain ⟨g, rfl⟩ := to_grow hb; clear hb)
    go_ret
    exact ⟨rfl, by (repeat (first | exact Below.refl _ _ | assumption | with_reducible refine below_alloc ?_ _ | with_reducible refine below_grow ?_ _ | with_reducible refine below_drewN ?_ _ | with_reducible refine below_drew ?_ | with_reducible refine below_setCell ?_ (by first | (dsimp only; omega) | (simp; done) | (simp; omega)) _))⟩
  have b1 : s.length ≤ 300 := by omega
  have b2 : d.length ≤ 300 := by omega
  have b3 : i.length ≤ 300 := by omega
  have O : ∀ w, Calls Try.prog 11 #[.string (B s), Edit at_ d i] w (DoPost s at_ d i w) := fun w => do_any s d i at_ w (by omega) (by omega) (by omega)
  have G : ∀ w, Calls Try.prog 14 #[.string (B s), Edit at_ d i] w fun e w' => e = .returned (.bool (wrong s at_ d i == 0)) ∧ Below w.heap.size w w' := fun w => goes_any s d i at_ w (by omega) (by omega) (by omega)
  have W : ∀ w, Calls Try.prog 13 #[.string (B s), Edit at_ d i] w fun e w' => e = .returned (.int .i64 (wrong s at_ d i)) ∧ Below w.heap.size w w' := fun w => refWrong_any s d i at_ w (by omega) (by omega) (by omega)
  have HW := Lib.hid W
  clear W
  by_cases hz : wrong s at_ d i = 0
  · obtain ⟨n, rfl, hn, _, hn3⟩ := wrong_zero hz
    obtain ⟨q1, q2⟩ := back s d i n b1 hz
    have bt : (does s n d i).length ≤ 600 := by simp [does]; omega
    have O' : ∀ w, Calls Try.prog 11 #[.string (B s), Edit n d i] w fun e w' => e = .returned (.tuple #[.string (B (does s n d i)), .int .i64 0]) ∧ Below w.heap.size w w' := fun w =>
      (O w).mono fun e w' h => ⟨by rw [h.1, hz, if_pos rfl], h.2⟩
    have P' : ∀ w, Calls Try.prog 11 #[.string (B (does s n d i)), Edit n i d] w fun e w' => e = .returned (.tuple #[.string (B s), .int .i64 0]) ∧ Below w.heap.size w w' := fun w =>
      (do_any _ i d n w (by omega) (by omega) (by omega)).mono fun e w' h => ⟨by rw [h.1, q1, if_pos rfl, q2], h.2⟩
    have R' : ∀ w, Calls Try.prog 16 #[.string (B s), Edit n d i] w fun e w' => e = .returned (.string (B (does s n d i))) ∧ Below w.heap.size w w' := fun w =>
      refDo_any s d i n w (by omega) (by omega) (by omega)
    have G' : ∀ w, Calls Try.prog 14 #[.string (B s), Edit n d i] w fun e w' => e = .returned (.bool true) ∧ Below w.heap.size w w' := fun w => (G w).mono fun e w' h => ⟨by rw [h.1, hz]; rfl, h.2⟩
    have W' : ∀ w, Calls Try.prog 13 #[.string (B s), Edit n d i] w fun e w' => e = .returned (.int .i64 0) ∧ Below w.heap.size w w' := fun w => (HW.out w).mono fun e w' h => ⟨by rw [h.1, hz], h.2⟩
    have HO := Lib.hid O'
    have HP := Lib.hid P'
    have HR := Lib.hid R'
    have HG := Lib.hid G'
    have HW' := Lib.hid W'
    clear O G O' P' R' G' W' HW q1 q2 hz
    generalize does s n d i = t at *
    go_enter Try.func4, Try.ntmps4
    go_wp2_with (first | (go_at_call 9; refine (awake_any _).mono ?_; rintro e w' ⟨rfl, hb⟩; obtain ⟨g, rfl⟩ := to_grow hb; clear hb) | (go_at_call_of 11 (Value.string (B s)); refine (HO.out _).mono ?_; rintro e w' ⟨rfl, hb⟩; obtain ⟨g, rfl⟩ := to_grow hb; clear hb) | (go_at_call 11; refine (HP.out _).mono ?_; rintro e w' ⟨rfl, hb⟩; obtain ⟨g, rfl⟩ := to_grow hb; clear hb) | (go_at_call 13; refine (HW'.out _).mono ?_; rintro e w' ⟨rfl, hb⟩; obtain ⟨g, rfl⟩ := to_grow hb; clear hb) | (go_at_call 14; refine (HG.out _).mono ?_; rintro e w' ⟨rfl, hb⟩; obtain ⟨g, rfl⟩ := to_grow hb; clear hb) | (go_at_call 16; refine (HR.out _).mono ?_; rintro e w' ⟨rfl, hb⟩; obtain ⟨g, rfl⟩ := to_grow hb; clear hb) | (go_at_call 15; refine (inverse_any d i n _).mono ?_; rintro e w' ⟨rfl, hb⟩; obtain ⟨g, rfl⟩ := to_grow hb; clear hb))
    go_ret
    exact ⟨rfl, by (repeat (first | exact Below.refl _ _ | assumption | with_reducible refine below_alloc ?_ _ | with_reducible refine below_grow ?_ _ | with_reducible refine below_drewN ?_ _ | with_reducible refine below_drew ?_ | with_reducible refine below_setCell ?_ (by first | (dsimp only; omega) | (simp; done) | (simp; omega)) _))⟩
  · have O' : ∀ w, Calls Try.prog 11 #[.string (B s), Edit at_ d i] w fun e w' => e = .returned (.tuple #[.string (B []), .int .i64 (wrong s at_ d i)]) ∧ Below w.heap.size w w' := fun w =>
      (O w).mono fun e w' h => ⟨by rw [h.1, if_neg hz], h.2⟩
    have G' : ∀ w, Calls Try.prog 14 #[.string (B s), Edit at_ d i] w fun e w' => e = .returned (.bool false) ∧ Below w.heap.size w w' := fun w => (G w).mono fun e w' h => ⟨by rw [h.1]; simp [hz], h.2⟩
    have HO := Lib.hid O'
    have HG := Lib.hid G'
    clear O G O' G'
    have z1 : (wrong s at_ d i == 0) = false := by simpa using hz
    have z2 : (wrong s at_ d i != 0) = true := by simpa using hz
    generalize wrong s at_ d i = n at *
    clear hz
    go_enter Try.func4, Try.ntmps4
    go_wp2_with (first | (go_at_call 9; refine (awake_any _).mono ?_; rintro e w' ⟨rfl, hb⟩; obtain ⟨g, rfl⟩ := to_grow hb; clear hb) | (go_at_call 11; refine (HO.out _).mono ?_; rintro e w' ⟨rfl, hb⟩; obtain ⟨g, rfl⟩ := to_grow hb; clear hb) | (go_at_call 13; refine (HW.out _).mono ?_; rintro e w' ⟨rfl, hb⟩; obtain ⟨g, rfl⟩ := to_grow hb; clear hb) | (go_at_call 14; refine (HG.out _).mono ?_; rintro e w' ⟨rfl, hb⟩; obtain ⟨g, rfl⟩ := to_grow hb; clear hb))
    go_ret
    exact ⟨rfl, by (repeat (first | exact Below.refl _ _ | assumption | with_reducible refine below_alloc ?_ _ | with_reducible refine below_grow ?_ _ | with_reducible refine below_drewN ?_ _ | with_reducible refine below_drew ?_ | with_reducible refine below_setCell ?_ (by first | (dsimp only; omega) | (simp; done) | (simp; omega)) _))⟩
end Go.Proofs.Ythpjapphehclnaa.editDoes
