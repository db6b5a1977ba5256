/-
  The walks of layer 1 (edit) and of its reference, on: ref.Diff, ref.Wrong, ref.Do, Make, Move.
-/
import Derived.Test.YthpjapphehclnaaEdit2
import Derived.Test.YthpjapphehclnaaTail
namespace Go.Proofs.Ythpjapphehclnaa
open Go.RowKit
theorem refDo_any (s d i : List UInt8) (n : Nat) (w : World) (hs : s.length ≤ 4611686018427387903) (hi : i.length ≤ 4611686018427387903) (h1 : n + d.length ≤ s.length) :
    Calls Try.prog 16 #[.string (B s), Edit n d i] w fun e w' => e = .returned (.string (B (does s n d i))) ∧ Below w.heap.size w w' := by
  have hn : n ≤ s.length := by omega
  unfold Edit
  go_enter Try.func16, Try.ntmps16
  go_wp2
  go_quiet (fail)
  go_wp2
  go_ret
  exact ⟨rfl, by (repeat (first | exact Below.refl _ _ | assumption | with_reducible refine below_alloc ?_ _ | with_reducible refine below_grow ?_ _ | with_reducible refine below_drewN ?_ _ | with_reducible refine below_drew ?_ | with_reducible refine below_setCell ?_ (by first | (dsimp only; omega) | (simp; done) | (simp; omega)) _))⟩
theorem refDiff_any (a b : List UInt8) (w : World) (ha : a.length ≤ 9223372036854775807) (hb : b.length ≤ 9223372036854775807) :
    Calls Try.prog 12 #[.string (B a), .string (B b)] w (DiffPost a b w) := by
  obtain ⟨least, hl⟩ : ∃ least, least = min a.length b.length := ⟨_, rfl⟩
  have l1 : least ≤ a.length := by omega
  have l2 : least ≤ b.length := by omega
  have HL := Lib.hid (show a.length ≤ least ∨ b.length ≤ least by omega)
  have hx := cp_le a b
  have hcl := Lib.hid hx
  have hcl1 : cp a b ≤ least := by omega
  have hsl := cs_le (a.drop (cp a b)) (b.drop (cp a b))
  simp only [List.length_drop] at hsl
  have hsl' : cp a b + cs (a.drop (cp a b)) (b.drop (cp a b)) ≤ least := by omega
  have least_if : decide (b.length < a.length) = false → least = a.length := by intro h; have := of_decide_eq_false h; omega
  have H0 := Lib.hid least_if
  have bl : least ≤ 9223372036854775807 := by omega
  clear least_if
  go_enter Try.func12, Try.ntmps12
  go_upto_if 13 with (fail)
  go_cut [5] (fun n w' => n = .int .i64 least ∧ w' = w.alloc (.cells #[.int .i64 0, .string (B []), .string (B [])] 24))
  case first =>
    by_cases h : b.length < a.length
    · have : least = b.length := by omega
      clear hl
      go_wp2
      go_meet
      exact ⟨by rw [this], rfl⟩
    · have : least = a.length := by omega
      clear hl
      go_wp2
      go_meet
      exact ⟨by rw [this], rfl⟩
  case rest =>
    obtain ⟨rfl, rfl⟩ := hcut
    clear hl
    go_upto_block 0 with (fail)
    go_cut [6] (fun n w' => n = .int .i64 (cp a b) ∧ Drew (w.alloc (.cells #[.int .i64 0, .string (B []), .string (B [])] 24)) w')
    case first =>
      go_wp2
      go_loopw [6] (fun n w' => ∃ k : Nat, k ≤ cp a b ∧ n = .int .i64 k ∧ Drew (w.alloc (.cells #[.int .i64 0, .string (B []), .string (B [])] 24)) w') (fun n _ => a.length - (intOf n).toNat)
      case atStart => exact ⟨0, by omega, rfl, .refl _⟩
      case round =>
        obtain ⟨k, hk, rfl, m, rfl⟩ := hrel
        have Hgo := Lib.hid fun h1 h2 => cp_step a b k h1 h2 hk
        have Hfull := Lib.hid (cp_full a b k hk)
        by_cases h1 : k < least
        · have h1' : k < a.length := by omega
          have h2' : k < b.length := by omega
          by_cases h3 : a[k] = b[k]
          · have := (Hgo.out h1' h2').1 h3
            go_wp2
            go_quiet (fail)
            go_wp2
            go_roundw
            case rel => exact ⟨k + 1, this, by go_num, m + nq, rfl⟩
            case measure => simp [intOf]; omega
          · have h3' := byte_ne h3
            go_wp2
            go_quiet (fail)
            go_wp2
            go_meet
            exact ⟨by rw [(Hgo.out h1' h2').2 h3], Drew.more ⟨m, rfl⟩ _⟩
        · have hq := HL.out
          go_wp2
          go_quiet (fail)
          go_wp2
          go_meet
          exact ⟨by rw [Hfull.out (by omega)], Drew.more ⟨m, rfl⟩ _⟩
    case rest =>
      obtain ⟨rfl, m, rfl⟩ := hcut
      have hx1 := hx.1
      have hx2 := hx.2
      clear hx hcl
      have hstep : ∀ k, k ≤ cs (a.drop (cp a b)) (b.drop (cp a b)) → ∀ (hk : k < least - cp a b) (h1 : a.length - 1 - k < a.length) (h2 : b.length - 1 - k < b.length),
          (a[a.length - 1 - k] = b[b.length - 1 - k] → k + 1 ≤ cs (a.drop (cp a b)) (b.drop (cp a b))) ∧ (¬ a[a.length - 1 - k] = b[b.length - 1 - k] → cs (a.drop (cp a b)) (b.drop (cp a b)) = k) := by
        intro k hk hk2 h1 h2
        have := cs_step (a.drop (cp a b)) (b.drop (cp a b)) k (by simp; omega) (by simp; omega) hk
        simp only [List.getElem_drop, List.length_drop] at this
        have e1 : cp a b + (a.length - cp a b - 1 - k) = a.length - 1 - k := by omega
        have e2 : cp a b + (b.length - cp a b - 1 - k) = b.length - 1 - k := by omega
        simpa only [e1, e2] using this
      have hful : ∀ k, k ≤ cs (a.drop (cp a b)) (b.drop (cp a b)) → ¬ k < least - cp a b → cs (a.drop (cp a b)) (b.drop (cp a b)) = k := by
        intro k hk hk2
        exact cs_full _ _ k hk (by have := HL.out; simp; omega)
      have Hstep := Lib.hid hstep
      have Hful := Lib.hid hful
      clear hstep hful
      go_upto_block 2 with (fail)
      go_cut [7] (fun n w' => n = .int .i64 (cs (a.drop (cp a b)) (b.drop (cp a b))) ∧ Drew (w.alloc (.cells #[.int .i64 0, .string (B []), .string (B [])] 24)) w')
      case first =>
        go_wp2
        go_loopw [7] (fun n w' => ∃ k : Nat, k ≤ cs (a.drop (cp a b)) (b.drop (cp a b)) ∧ n = .int .i64 k ∧ Drew (w.alloc (.cells #[.int .i64 0, .string (B []), .string (B [])] 24)) w') (fun n _ => a.length - (intOf n).toNat)
        case atStart => exact ⟨0, by omega, rfl, ⟨m, rfl⟩⟩
        case round =>
          obtain ⟨k, hk, rfl, m, rfl⟩ := hrel
          by_cases h1 : k < least - cp a b
          · have g1 : a.length - 1 - k < a.length := by omega
            have g2 : b.length - 1 - k < b.length := by omega
            have g3 : (k : Int) < (least : Int) - (cp a b : Int) := by omega
            have v1 : IntKind.i64.wrap ((least : Int) - (cp a b : Int)) = (least : Int) - (cp a b : Int) := IntWalk.i64_in _ (by omega)
            have v2 : IntKind.i64.wrap ((a.length : Int) - 1) = (a.length : Int) - 1 := IntWalk.i64_in _ (by omega)
            have v3 : IntKind.i64.wrap ((b.length : Int) - 1) = (b.length : Int) - 1 := IntWalk.i64_in _ (by omega)
            have v4 : IntKind.i64.wrap ((a.length : Int) - 1 - k) = ((a.length - 1 - k : Nat) : Int) := by rw [IntWalk.i64_in _ (by omega)]; omega
            have v5 : IntKind.i64.wrap ((b.length : Int) - 1 - k) = ((b.length - 1 - k : Nat) : Int) := by rw [IntWalk.i64_in _ (by omega)]; omega
            by_cases h3 : a[a.length - 1 - k] = b[b.length - 1 - k]
            · have := (Hstep.out k hk h1 g1 g2).1 h3
              go_wp2
              go_quiet (fail)
              clear v1 v2 v3 v4 v5
              go_wp2
              go_roundw
              case rel => exact ⟨k + 1, this, by go_num, ⟨m + nq, rfl⟩⟩
              case measure => simp [intOf]; omega
            · have h3' := byte_ne h3
              go_wp2
              go_quiet (fail)
              go_wp2
              go_meet
              exact ⟨by rw [(Hstep.out k hk h1 g1 g2).2 h3], Drew.more ⟨m, rfl⟩ _⟩
          · have g3 : decide ((k : Int) < (least : Int) - (cp a b : Int)) = false := no (by omega)
            have v1 : IntKind.i64.wrap ((least : Int) - (cp a b : Int)) = (least : Int) - (cp a b : Int) := IntWalk.i64_in _ (by omega)
            go_wp2
            go_quiet (fail)
            go_wp2
            go_meet
            exact ⟨by rw [Hful.out k hk h1], Drew.more ⟨m, rfl⟩ _⟩
      case rest =>
        obtain ⟨rfl, m, rfl⟩ := hcut
        have v1 : IntKind.i64.wrap ((a.length : Int) - (cs (a.drop (cp a b)) (b.drop (cp a b)) : Int)) = ((a.length - cs (a.drop (cp a b)) (b.drop (cp a b)) : Nat) : Int) := by rw [IntWalk.i64_in _ (by omega)]; omega
        have v2 : IntKind.i64.wrap ((b.length : Int) - (cs (a.drop (cp a b)) (b.drop (cp a b)) : Int)) = ((b.length - cs (a.drop (cp a b)) (b.drop (cp a b)) : Nat) : Int) := by rw [IntWalk.i64_in _ (by omega)]; omega
        have v3 : cp a b ≤ a.length - cs (a.drop (cp a b)) (b.drop (cp a b)) := by omega
        have v4 : cp a b ≤ b.length - cs (a.drop (cp a b)) (b.drop (cp a b)) := by omega
        go_wp2_with fail
        (refine wp_region_grow_tail 16 (by kernel_rfl) (by kernel_rfl) ?_; simp only [List.take_succ_cons, List.take_zero, List.drop_succ_cons, List.drop_zero]; (repeat (go_big_quiet_step (fail))); refine wpQuiet_nil ?_; intro _ hw'; obtain ⟨gq, hw''⟩ := hw'; subst hw'')
        clear v1 v2 v3 v4
        go_wp2
        refine bodyPost_ret (v := .agg #[.int .i64 (cp a b), .string (B ((a.take (a.length - cs (a.drop (cp a b)) (b.drop (cp a b)))).drop (cp a b))), .string (B ((b.take (b.length - cs (a.drop (cp a b)) (b.drop (cp a b)))).drop (cp a b)))]) (by simp [results, Try.results12, go_sem]) rfl ⟨?_, by (repeat (first | exact Below.refl _ _ | assumption | with_reducible refine below_alloc ?_ _ | with_reducible refine below_grow ?_ _ | with_reducible refine below_drewN ?_ _ | with_reducible refine below_drew ?_ | with_reducible refine below_setCell ?_ (by first | (dsimp only; omega) | (simp; done) | (simp; omega)) _))⟩
        simp only [List.drop_take]
        rw [Nat.sub_right_comm a.length, Nat.sub_right_comm b.length]
theorem move_any (d i : List UInt8) (n k : Nat) (stick : Bool) (w : World) (hn : n ≤ 4611686018427387903) (hd : d.length ≤ 4611686018427387903) (hi : i.length ≤ 4611686018427387903) (hk : k ≤ 4611686018427387903) :
    Calls Try.prog 18 #[Edit n d i, .int .i64 k, .bool stick] w fun e w' => e = .returned (.int .i64 (if k < n then k else if n + d.length < k then (k : Int) - d.length + i.length else if stick then n + i.length else n)) ∧ Below w.heap.size w w' := by
  unfold Edit
  by_cases h1 : k < n
  · rw [if_pos h1]
    go_enter Try.func18, Try.ntmps18
    go_wp2
    go_ret
    exact ⟨rfl, by (repeat (first | exact Below.refl _ _ | assumption | with_reducible refine below_alloc ?_ _ | with_reducible refine below_grow ?_ _ | with_reducible refine below_drewN ?_ _ | with_reducible refine below_drew ?_ | with_reducible refine below_setCell ?_ (by first | (dsimp only; omega) | (simp; done) | (simp; omega)) _))⟩
  · rw [if_neg h1]
    by_cases h2 : n + d.length < k
    · rw [if_pos h2]
      go_enter Try.func18, Try.ntmps18
      go_wp2
      go_ret
      exact ⟨rfl, by (repeat (first | exact Below.refl _ _ | assumption | with_reducible refine below_alloc ?_ _ | with_reducible refine below_grow ?_ _ | with_reducible refine below_drewN ?_ _ | with_reducible refine below_drew ?_ | with_reducible refine below_setCell ?_ (by first | (dsimp only; omega) | (simp; done) | (simp; omega)) _))⟩
    · rw [if_neg h2]
      cases stick
      all_goals
        go_enter Try.func18, Try.ntmps18
        go_wp2
        go_ret
        exact ⟨rfl, by (repeat (first | exact Below.refl _ _ | assumption | with_reducible refine below_alloc ?_ _ | with_reducible refine below_grow ?_ _ | with_reducible refine below_drewN ?_ _ | with_reducible refine below_drew ?_ | with_reducible refine below_setCell ?_ (by first | (dsimp only; omega) | (simp; done) | (simp; omega)) _))⟩
theorem refMove_any (d i : List UInt8) (n k : Nat) (stick : Bool) (w : World) (hn : n ≤ 4611686018427387903) (hd : d.length ≤ 4611686018427387903) (hi : i.length ≤ 4611686018427387903) (hk : k ≤ 4611686018427387903) :
    Calls Try.prog 19 #[Edit n d i, .int .i64 k, .bool stick] w fun e w' => e = .returned (.int .i64 (if k < n then k else if n + d.length < k then (k : Int) - d.length + i.length else if stick then n + i.length else n)) ∧ Below w.heap.size w w' := by
  have e1 : (k : Int) - d.length + i.length = (k : Int) + i.length - d.length := by omega
  rw [e1]
  clear e1
  unfold Edit
  by_cases h1 : k < n
  · rw [if_pos h1]
    go_enter Try.func19, Try.ntmps19
    go_wp2
    go_ret
    exact ⟨rfl, by (repeat (first | exact Below.refl _ _ | assumption | with_reducible refine below_alloc ?_ _ | with_reducible refine below_grow ?_ _ | with_reducible refine below_drewN ?_ _ | with_reducible refine below_drew ?_ | with_reducible refine below_setCell ?_ (by first | (dsimp only; omega) | (simp; done) | (simp; omega)) _))⟩
  · rw [if_neg h1]
    by_cases h2 : n + d.length < k
    · rw [if_pos h2]
      go_enter Try.func19, Try.ntmps19
      go_wp2
      go_ret
      exact ⟨rfl, by (repeat (first | exact Below.refl _ _ | assumption | with_reducible refine below_alloc ?_ _ | with_reducible refine below_grow ?_ _ | with_reducible refine below_drewN ?_ _ | with_reducible refine below_drew ?_ | with_reducible refine below_setCell ?_ (by first | (dsimp only; omega) | (simp; done) | (simp; omega)) _))⟩
    · rw [if_neg h2]
      cases stick
      all_goals
        go_enter Try.func19, Try.ntmps19
        go_wp2
        go_ret
        exact ⟨rfl, by (repeat (first | exact Below.refl _ _ | assumption | with_reducible refine below_alloc ?_ _ | with_reducible refine below_grow ?_ _ | with_reducible refine below_drewN ?_ _ | with_reducible refine below_drew ?_ | with_reducible refine below_setCell ?_ (by first | (dsimp only; omega) | (simp; done) | (simp; omega)) _))⟩
theorem make_any (s i : List UInt8) (f t : Nat) (w : World) (hs : s.length ≤ 1048576) (hi : i.length ≤ 1048576) (h1 : f ≤ t) (h2 : t ≤ s.length) (h3 : s.length + i.length ≤ 1048576) :
    Calls Try.prog 17 #[.string (B s), .int .i64 f, .int .i64 t, .string (B i)] w fun e w' => e = .returned (.tuple #[Edit f ((s.take t).drop f) i, .int .i64 0]) ∧ Below w.heap.size w w' := by
  have hc : wrong s f ((s.take t).drop f) i = 0 := by
    unfold wrong
    rw [if_neg, if_neg]
    · simp; omega
    · simp [pre]
      rw [List.drop_take]
      simp
      omega
  have Hc := Lib.hid hc
  clear hc
  have d1 : decide (t < f) = false := no (by omega)
  have d2 : decide (s.length < t) = false := no (by omega)
  unfold Edit
  go_enter Try.func17, Try.ntmps17
  go_wp2_with (go_at_call 22; refine (check_any s ((s.take t).drop f) i f _ (by omega) (by simp; omega) (by omega)).mono ?_; rintro e w' ⟨he, hb⟩; rw [Hc.out] at he; subst he; obtain ⟨g, rfl⟩ := to_grow hb; clear hb)
  exact bodyPost_ret (v := .tuple #[.agg #[.int .i64 f, .string (B ((s.take t).drop f)), .string (B i)], .int .i64 0]) (by simp [results, Try.results17, go_sem]) rfl ⟨rfl, by (repeat (first | exact Below.refl _ _ | assumption | with_reducible refine below_alloc ?_ _ | with_reducible refine below_grow ?_ _ | with_reducible refine below_drewN ?_ _ | with_reducible refine below_drew ?_ | with_reducible refine below_setCell ?_ (by first | (dsimp only; omega) | (simp; done) | (simp; omega)) _))⟩
end Go.Proofs.Ythpjapphehclnaa
