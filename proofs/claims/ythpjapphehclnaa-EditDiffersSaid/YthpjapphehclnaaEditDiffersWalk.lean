/-
  The walk of the law EditDiffers: it returns true, whatever the two texts. Conditions: none (texts as the row reads them).
-/
import Derived.Test.YthpjapphehclnaaEdit6
namespace Go.Proofs.Ythpjapphehclnaa.editDiffers
open Go.ChangeShapes Go.WideShapes Go.ChangeAt Go.RowKit
theorem plain (a b : List UInt8) (ha : a.length ≤ 300) (hb : b.length ≤ 300) : ∃ (n : Nat) (x y : List UInt8), (∀ w, DiffPost a b w = fun e w' => e = .returned (Edit n x y) ∧ Below w.heap.size w w') ∧
    wrong a n x y = 0 ∧ does a n x y = b ∧ n ≤ 300 ∧ x.length ≤ 300 ∧ y.length ≤ 300 := by
  have hl := cp_le a b
  have ht := cp_take a b
  have hs := cs_le (a.drop (cp a b)) (b.drop (cp a b))
  have hd := cs_drop (a.drop (cp a b)) (b.drop (cp a b))
  refine ⟨cp a b, _, _, fun w => rfl, ?_, ?_, by omega, by simp; omega, by simp; omega⟩
  · simp only [List.length_drop] at hs
    unfold wrong
    rw [if_neg, if_neg]
    · simp; omega
    · simp [pre]; omega
  · simp only [List.length_drop, List.drop_drop] at hs hd
    unfold does
    simp only [Int.toNat_natCast, List.length_take, List.length_drop]
    rw [ht, Nat.min_eq_left (by omega), hd]
    conv => rhs; rw [← List.take_append_drop (cp a b) b, ← List.take_append_drop (b.length - cp a b - cs (a.drop (cp a b)) (b.drop (cp a b))) (b.drop (cp a b))]
    simp only [List.drop_drop]
theorem walk {H : Type} (enc : TypeId × Value → H) (w : World) (base : Nat) {v0 v1 : Value} {d0 d1 : DataW H} {p0 p1 : List MemPlace}
    (h0 : DataW.Trod enc Try.prog w 0 (fun _ => true) true 9 v0 d0 p0) (k0 : Value.okWide Try.prog w .any base 9 v0)
    (h1 : DataW.Trod enc Try.prog w 0 (fun _ => true) true 9 v1 d1 p1) (k1 : Value.okWide Try.prog w .any base 9 v1) :
    Calls Try.prog 3 #[v0, v1] w fun e w' => e = .returned (.bool true) ∧ Below w.heap.size w w' := by
  obtain ⟨a, rfl, ha⟩ := open_text h0 k0
  obtain ⟨b, rfl, hb⟩ := open_text h1 k1
  clear h0 k0 h1 k1
  by_cases l1 : 300 < a.length
  · go_enter Try.func3, Try.ntmps3
    go_wp2_with (go_at_call 9; refine (awake_any _).mono ?_; rintro e w' ⟨rfl, hb⟩; obtain ⟨g, rfl⟩ := to_grow hb; clear hb)
    go_ret
    exact ⟨rfl, by (repeat (first | exact Below.refl _ _ | assumption | with_reducible refine below_alloc ?_ _ | with_reducible refine below_grow ?_ _ | with_reducible refine below_drewN ?_ _ | with_reducible refine below_drew ?_ | with_reducible refine below_setCell ?_ (by first | (dsimp only; omega) | (simp; done) | (simp; omega)) _))⟩
  by_cases l2 : 300 < b.length
  · go_enter Try.func3, Try.ntmps3
    go_wp2_with (go_at_call 9; refine (awake_any _).mono ?_; rintro e w' ⟨rfl, hb⟩; obtain ⟨g, rfl⟩ := to_grow hb; clear hb)
    go_ret
    exact ⟨rfl, by (repeat (first | exact Below.refl _ _ | assumption | with_reducible refine below_alloc ?_ _ | with_reducible refine below_grow ?_ _ | with_reducible refine below_drewN ?_ _ | with_reducible refine below_drew ?_ | with_reducible refine below_setCell ?_ (by first | (dsimp only; omega) | (simp; done) | (simp; omega)) _))⟩
  obtain ⟨n, x, y, hp, hw, hdo, hn, hx, hy⟩ := plain a b (by omega) (by omega)
  have D : ∀ w, Calls Try.prog 10 #[.string (B a), .string (B b)] w fun e w' => e = .returned (Edit n x y) ∧ Below w.heap.size w w' := fun w => by
    have := diff_any a b w ha hb; rwa [hp] at this
  have R : ∀ w, Calls Try.prog 12 #[.string (B a), .string (B b)] w fun e w' => e = .returned (Edit n x y) ∧ Below w.heap.size w w' := fun w => by
    have := refDiff_any a b w ha hb; rwa [hp] at this
  have O : ∀ w, Calls Try.prog 11 #[.string (B a), Edit n x y] w fun e w' => e = .returned (.tuple #[.string (B b), .int .i64 0]) ∧ Below w.heap.size w w' := fun w =>
    (do_any a x y n w (by omega) (by omega) (by omega)).mono fun e w' h => ⟨by rw [h.1, hw, if_pos rfl, hdo], h.2⟩
  have HD := Lib.hid D
  have HR := Lib.hid R
  have HO := Lib.hid O
  clear D R O hp hw hdo
  go_enter Try.func3, Try.ntmps3
  go_wp2_with (first | (go_at_call 9; refine (awake_any _).mono ?_; rintro e w' ⟨rfl, hb⟩; obtain ⟨g, rfl⟩ := to_grow hb; clear hb) | (go_at_call 10; refine (HD.out _).mono ?_; rintro e w' ⟨rfl, hb⟩; obtain ⟨g, rfl⟩ := to_grow hb; clear hb) | (go_at_call 11; refine (HO.out _).mono ?_; rintro e w' ⟨rfl, hb⟩; obtain ⟨g, rfl⟩ := to_grow hb; clear hb))
  (refine wp_region_grow (by kernel_rfl) (by kernel_rfl) ?_; (repeat (go_big_quiet_step ((go_at_call 12; exact grow_of (HR.out _))))); refine wpQuiet_nil ?_; intro _ hw'; obtain ⟨gq, hw''⟩ := hw'; subst hw'')
  go_wp2
  go_ret
  exact ⟨rfl, by (repeat (first | exact Below.refl _ _ | assumption | with_reducible refine below_alloc ?_ _ | with_reducible refine below_grow ?_ _ | with_reducible refine below_drewN ?_ _ | with_reducible refine below_drew ?_ | with_reducible refine below_setCell ?_ (by first | (dsimp only; omega) | (simp; done) | (simp; omega)) _))⟩
end Go.Proofs.Ythpjapphehclnaa.editDiffers
