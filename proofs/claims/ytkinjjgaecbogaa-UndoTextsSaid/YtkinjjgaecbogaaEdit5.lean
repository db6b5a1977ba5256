/-
  The walks of layer 1 (edit), on: Join.
-/
import Derived.Test.YtkinjjgaecbogaaEdit4
namespace Go.Proofs.Ytkinjjgaecbogaa
open Go.RowKit
theorem far_no (n : Nat) (h : n ≤ 1048576) (w : World) : Calls Try.prog 85 #[.int .i64 n] w fun e w' => e = .returned (.bool false) ∧ w = w' :=
  (far_any n w).mono fun e w' ⟨he, hw⟩ => ⟨by rw [he, no (by omega)], hw⟩
set_option maxRecDepth 100000 in
set_option maxHeartbeats 1600000 in
theorem join_any (d i d' i' : List UInt8) (n m : Nat) (w : World) (hn : n ≤ 1048576) (hm : m ≤ 1048576) (hd : d.length ≤ 2305843009213693951) (hi : i.length ≤ 2305843009213693951) (hd' : d'.length ≤ 2305843009213693951) (hi' : i'.length ≤ 2305843009213693951) :
    Calls Try.prog 53 #[Edit n d i, Edit m d' i'] w fun e w' => e = .returned (joinV (join n d i m d' i')) ∧ Below w.heap.size w w' := by
  unfold join
  have v1 : IntKind.i64.wrap ((n : Int) + (i.length : Int)) = (n : Int) + (i.length : Int) := IntWalk.i64_in _ (by omega)
  have v2 : IntKind.i64.wrap ((m : Int) + (d'.length : Int)) = (m : Int) + (d'.length : Int) := IntWalk.i64_in _ (by omega)
  by_cases h1 : n + i.length < m ∨ m + d'.length < n
  · rw [if_pos h1]
    unfold Edit joinV
    by_cases h2 : n + i.length < m
    · clear h1
      have k1 : (n : Int) + (i.length : Int) < (m : Int) := by omega
      go_enter Try.func53, Try.ntmps53
      go_wp2_with (go_at_call 85; refine (far_no _ (by omega) _).mono ?_; rintro e w' ⟨rfl, rfl⟩)
      go_quiet (fail)
      go_wp2
      exact bodyPost_ret (v := .tuple #[.agg #[.int .i64 0, .string (B []), .string (B [])], .bool false]) (by simp [results, Try.results53, go_sem]) rfl ⟨rfl, by (repeat (first | exact Below.refl _ _ | assumption | with_reducible refine below_alloc ?_ _ | with_reducible refine below_grow ?_ _ | with_reducible refine below_drewN ?_ _ | with_reducible refine below_drew ?_ | with_reducible refine below_setCell ?_ (by first | (dsimp only; omega) | (simp; done) | (simp; omega)) _))⟩
    · have k0 := no (show ¬ (n : Int) + (i.length : Int) < (m : Int) by omega)
      have k1 : (m : Int) + (d'.length : Int) < (n : Int) := by omega
      clear h1
      go_enter Try.func53, Try.ntmps53
      go_wp2_with (go_at_call 85; refine (far_no _ (by omega) _).mono ?_; rintro e w' ⟨rfl, rfl⟩)
      go_quiet (fail)
      go_wp2
      exact bodyPost_ret (v := .tuple #[.agg #[.int .i64 0, .string (B []), .string (B [])], .bool false]) (by simp [results, Try.results53, go_sem]) rfl ⟨rfl, by (repeat (first | exact Below.refl _ _ | assumption | with_reducible refine below_alloc ?_ _ | with_reducible refine below_grow ?_ _ | with_reducible refine below_drewN ?_ _ | with_reducible refine below_drew ?_ | with_reducible refine below_setCell ?_ (by first | (dsimp only; omega) | (simp; done) | (simp; omega)) _))⟩
  · rw [if_neg h1]
    have k0 := no (show ¬ (n : Int) + (i.length : Int) < (m : Int) by omega)
    have k1 := no (show ¬ (m : Int) + (d'.length : Int) < (n : Int) by omega)
    have k2 : (m : Int) ≤ (n : Int) + (i.length : Int) := by omega
    have k3 : (n : Int) ≤ (m : Int) + (d'.length : Int) := by omega
    by_cases h2 : n ≤ m
    · by_cases h3 : m + d'.length ≤ n + i.length
      · rw [if_pos ⟨h2, h3⟩]
        unfold Edit joinV

        have k4 : (m : Int) + (d'.length : Int) ≤ (n : Int) + (i.length : Int) := by omega
        have v3 : IntKind.i64.wrap ((m : Int) - (n : Int)) = ((m - n : Nat) : Int) := by rw [IntWalk.i64_in _ (by omega)]; omega
        have v4 : IntKind.i64.wrap (((m - n : Nat) : Int) + (d'.length : Int)) = ((m - n + d'.length : Nat) : Int) := by rw [IntWalk.i64_in _ (by omega)]; omega
        have k5 : m - n ≤ i.length := by omega
        have k6 : m - n + d'.length ≤ i.length := by omega
        clear h1
        go_enter Try.func53, Try.ntmps53
        go_wp2_with (go_at_call 85; refine (far_no _ (by omega) _).mono ?_; rintro e w' ⟨rfl, rfl⟩)
        go_quiet (fail)
        go_wp2
        (refine wp_region_grow_tail 21 (by kernel_rfl) (by kernel_rfl) ?_; simp only [List.take_succ_cons, List.take_zero, List.drop_succ_cons, List.drop_zero]; (repeat (go_big_quiet_step (fail))); refine wpQuiet_nil ?_; intro _ hw'; obtain ⟨gq, hw''⟩ := hw'; subst hw'')
        go_wp2
        exact bodyPost_ret (v := .tuple #[.agg #[.int .i64 n, .string (B d), .string (B (i.take (m - n) ++ (i' ++ i.drop (m - n + d'.length))))], .bool true]) (by simp [results, Try.results53, go_sem]) rfl ⟨rfl, by (repeat (first | exact Below.refl _ _ | assumption | with_reducible refine below_alloc ?_ _ | with_reducible refine below_grow ?_ _ | with_reducible refine below_drewN ?_ _ | with_reducible refine below_drew ?_ | with_reducible refine below_setCell ?_ (by first | (dsimp only; omega) | (simp; done) | (simp; omega)) _))⟩
      · rw [if_neg (fun h => h3 h.2), if_pos h2]
        unfold Edit joinV
        have k4 := no (show ¬ (m : Int) + (d'.length : Int) ≤ (n : Int) + (i.length : Int) by omega)
        have v3 : IntKind.i64.wrap ((m : Int) - (n : Int)) = ((m - n : Nat) : Int) := by rw [IntWalk.i64_in _ (by omega)]; omega
        have v4 : IntKind.i64.wrap ((n : Int) + (i.length : Int) - (m : Int)) = ((n + i.length - m : Nat) : Int) := by rw [IntWalk.i64_in _ (by omega)]; omega
        have k5 : m - n ≤ i.length := by omega
        have k6 : n + i.length - m ≤ d'.length := by omega
        clear h1 h3
        go_enter Try.func53, Try.ntmps53
        go_wp2_with (go_at_call 85; refine (far_no _ (by omega) _).mono ?_; rintro e w' ⟨rfl, rfl⟩)
        go_quiet (fail)
        go_wp2
        (refine wp_region_grow_tail 24 (by kernel_rfl) (by kernel_rfl) ?_; simp only [List.take_succ_cons, List.take_zero, List.drop_succ_cons, List.drop_zero]; (repeat (go_big_quiet_step (fail))); refine wpQuiet_nil ?_; intro _ hw'; obtain ⟨gq, hw''⟩ := hw'; subst hw'')
        go_wp2
        exact bodyPost_ret (v := .tuple #[.agg #[.int .i64 n, .string (B (d ++ d'.drop (n + i.length - m))), .string (B (i.take (m - n) ++ i'))], .bool true]) (by simp [results, Try.results53, go_sem]) rfl ⟨rfl, by (repeat (first | exact Below.refl _ _ | assumption | with_reducible refine below_alloc ?_ _ | with_reducible refine below_grow ?_ _ | with_reducible refine below_drewN ?_ _ | with_reducible refine below_drew ?_ | with_reducible refine below_setCell ?_ (by first | (dsimp only; omega) | (simp; done) | (simp; omega)) _))⟩
    · have k4 := no (show ¬ n ≤ m by omega)
      by_cases h3 : m + d'.length ≤ n + i.length
      · rw [if_neg (fun h => h2 h.1), if_neg h2, if_pos h3]
        unfold Edit joinV
        have k5 : (m : Int) + (d'.length : Int) ≤ (n : Int) + (i.length : Int) := by omega
        have v3 : IntKind.i64.wrap ((n : Int) - (m : Int)) = ((n - m : Nat) : Int) := by rw [IntWalk.i64_in _ (by omega)]; omega
        have v4 : IntKind.i64.wrap ((m : Int) + (d'.length : Int) - (n : Int)) = ((m + d'.length - n : Nat) : Int) := by rw [IntWalk.i64_in _ (by omega)]; omega
        have k6 : n - m ≤ d'.length := by omega
        have k7 : m + d'.length - n ≤ i.length := by omega
        clear h1 h2
        go_enter Try.func53, Try.ntmps53
        go_wp2_with (go_at_call 85; refine (far_no _ (by omega) _).mono ?_; rintro e w' ⟨rfl, rfl⟩)
        go_quiet (fail)
        go_wp2
        (refine wp_region_grow_tail 24 (by kernel_rfl) (by kernel_rfl) ?_; simp only [List.take_succ_cons, List.take_zero, List.drop_succ_cons, List.drop_zero]; (repeat (go_big_quiet_step (fail))); refine wpQuiet_nil ?_; intro _ hw'; obtain ⟨gq, hw''⟩ := hw'; subst hw'')
        go_wp2
        exact bodyPost_ret (v := .tuple #[.agg #[.int .i64 m, .string (B (d'.take (n - m) ++ d)), .string (B (i' ++ i.drop (m + d'.length - n)))], .bool true]) (by simp [results, Try.results53, go_sem]) rfl ⟨rfl, by (repeat (first | exact Below.refl _ _ | assumption | with_reducible refine below_alloc ?_ _ | with_reducible refine below_grow ?_ _ | with_reducible refine below_drewN ?_ _ | with_reducible refine below_drew ?_ | with_reducible refine below_setCell ?_ (by first | (dsimp only; omega) | (simp; done) | (simp; omega)) _))⟩
      · rw [if_neg (fun h => h2 h.1), if_neg h2, if_neg h3]
        unfold Edit joinV
        have k5 := no (show ¬ (m : Int) + (d'.length : Int) ≤ (n : Int) + (i.length : Int) by omega)
        have v3 : IntKind.i64.wrap ((n : Int) - (m : Int)) = ((n - m : Nat) : Int) := by rw [IntWalk.i64_in _ (by omega)]; omega
        have v4 : IntKind.i64.wrap ((n : Int) + (i.length : Int) - (m : Int)) = ((n + i.length - m : Nat) : Int) := by rw [IntWalk.i64_in _ (by omega)]; omega
        have k6 : n - m ≤ d'.length := by omega
        have k7 : n + i.length - m ≤ d'.length := by omega
        clear h1 h2 h3
        go_enter Try.func53, Try.ntmps53
        go_wp2_with (go_at_call 85; refine (far_no _ (by omega) _).mono ?_; rintro e w' ⟨rfl, rfl⟩)
        go_quiet (fail)
        go_wp2
        (refine wp_region_grow_tail 24 (by kernel_rfl) (by kernel_rfl) ?_; simp only [List.take_succ_cons, List.take_zero, List.drop_succ_cons, List.drop_zero]; (repeat (go_big_quiet_step (fail))); refine wpQuiet_nil ?_; intro _ hw'; obtain ⟨gq, hw''⟩ := hw'; subst hw'')
        go_wp2
        exact bodyPost_ret (v := .tuple #[.agg #[.int .i64 m, .string (B (d'.take (n - m) ++ (d ++ d'.drop (n + i.length - m)))), .string (B i')], .bool true]) (by simp [results, Try.results53, go_sem]) rfl ⟨rfl, by (repeat (first | exact Below.refl _ _ | assumption | with_reducible refine below_alloc ?_ _ | with_reducible refine below_grow ?_ _ | with_reducible refine below_drewN ?_ _ | with_reducible refine below_drew ?_ | with_reducible refine below_setCell ?_ (by first | (dsimp only; omega) | (simp; done) | (simp; omega)) _))⟩
end Go.Proofs.Ytkinjjgaecbogaa
