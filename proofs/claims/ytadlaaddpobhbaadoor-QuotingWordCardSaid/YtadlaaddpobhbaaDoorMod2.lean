/-
  The walks of layer 6's reference (modes), on: a byte comes to Top, Command or Paren. Conditions: stacks of at most 2^30 modes.
-/
import Derived.Test.YtadlaaddpobhbaaDoorMod1
namespace Go.Proofs.YtadlaaddpobhbaaDoor.Md
set_option linter.unusedSimpArgs false
set_option linter.unusedVariables false
open Go.ChangeShapes Go.WideShapes Go.Deep Go.RowKit Cls
set_option maxRecDepth 100000
theorem StP.out {w w' : World} {x : St} {e : Ending} (h : StP w x e w') : ∃ s A n c f, e = .returned (.agg #[.string (B s), .slice A n c, .bool f]) ∧ n ≤ c ∧ c ≤ 9223372036854775807 ∧ StR w' (.agg #[.string (B s), .slice A n c, .bool f]) x ∧ Below w.heap.size w w' := by
  obtain ⟨v, rfl, hr, hb⟩ := h
  obtain ⟨A, c, rfl, h1, h2, _, _⟩ := hr.form
  exact ⟨_, _, _, _, _, rfl, h1, h2, hr, hb⟩
theorem StR.as {w : World} {v : Value} {x y : St} (h : StR w v x) (e : y = x) : StR w v y := by rw [e]; exact h
theorem tyOf_grow2 {w : World} (g : GrowOf w) (r : Nat) (hr : r < w.heap.size) {t : TypeId} (h : tyOf w r = some t) : tyOf (grow w g) r = some t := (tyOf_of_block (g.2.block r hr)).trans h
theorem tyOf_new2 (w : World) (o : Obj) (cs : Array Value) (t : TypeId) : tyOf ((w.alloc o).alloc (.cells cs t)) (w.heap.size + 1) = some t := by
  have := tyOf_alloc (w.alloc o) cs t
  rwa [show (w.alloc o).heap.size = w.heap.size + 1 by simp] at this
theorem tyOf_b {w w' : World} {o : Obj} {cs : Array Value} {t : TypeId} (hb : Below ((w.alloc o).alloc (.cells cs t)).heap.size ((w.alloc o).alloc (.cells cs t)) w') : tyOf w' (w.heap.size + 1) = some t :=
  (tyOf_of_block (hb.block _ (by simp))).trans (tyOf_new2 _ _ _ _)
theorem opens_96 (w : World) : Calls Tryd.prog 90 #[.int .u8 96] w fun e w' => e = .returned (.string (B [66])) ∧ w = w' := opens_any 96 w
theorem opens_36 (w : World) : Calls Tryd.prog 90 #[.int .u8 36] w fun e w' => e = .returned (.string (B [76])) ∧ w = w' := opens_any 36 w
theorem to_grow2 {w0 w1 : World} {g : GrowOf w0} (h : Below (grow w0 g).heap.size (grow w0 g) w1) : ∃ g' : GrowOf w0, w1 = grow w0 g' := ⟨growTrans g ⟨w1, h⟩, rfl⟩
theorem pop_x {x : St} {v : Value} {w : World} (h : StR w v x) (hne : x.l ≠ []) (hl : x.l.length ≤ 1073741824) : Calls Tryd.prog 59 #[v] w (StP w x.pop) := by
  obtain ⟨l, f⟩ := x
  cases l with
  | nil => exact absurd rfl hne
  | cons e r => obtain ⟨a, b⟩ := e; exact pop_any (r := r) h (by simp at hl; omega)
theorem turn_x {x : St} {d : UInt8} {v : Value} {w : World} (h : StR w v x) (hne : x.l ≠ []) (hl : x.l.length ≤ 1073741824) : Calls Tryd.prog 58 #[v, .string (B [d])] w (StP w (x.turn d)) := by
  obtain ⟨l, f⟩ := x
  cases l with
  | nil => exact absurd rfl hne
  | cons e r => obtain ⟨a, b⟩ := e; exact turn_any (r := r) h (by simp at hl; omega)
set_option maxHeartbeats 4000000 in
theorem program_92 {x : St} {c : Int} {p : Nat} {v : Value} {w : World} (h : StR w v x) (hl : x.l.length ≤ 1073741824) (hne : x.l ≠ []) : Calls Tryd.prog 88 #[v, .int .u8 c, .int .u8 92, .int .i64 p] w (StP w (program x c 92 p)) := by
  obtain ⟨A, cp, rfl, hc0, hd0, hs, ht⟩ := h.form
  have HR0 := Lib.hid h
  clear h hs ht
  go_enter Tryd.func88, Tryd.ntmps88
  go_wp2_with (first
    | (go_at_call 89; (refine (push_any (HR0.out.below (by (repeat (first | exact Below.refl _ _ | assumption | with_reducible refine below_alloc ?_ _ | with_reducible refine below_grow ?_ _ | with_reducible refine below_drewN ?_ _ | with_reducible refine below_drew ?_ | with_reducible refine below_setCell ?_ (by first | (dsimp only; omega) | (simp; done) | (simp; omega)) _)))) hl).mono ?_); intro e w1 h1; obtain ⟨s1, A1, n1, c1, f1, rfl, hc1, hd1, hr1, hb1⟩ := h1.out; (first | obtain ⟨g1, rfl⟩ := to_grow2 hb1 | obtain ⟨g1, rfl⟩ := to_grow hb1); have HR1 := Lib.hid hr1; clear hr1 hb1 h1))
  refine bodyPost_ret (v := .agg #[.string (B s1), .slice A1 n1 c1, .bool f1]) (by simp [results, Tryd.results88, go_sem]) rfl ?_
  refine ⟨_, rfl, ?_, by (repeat (first | exact Below.refl _ _ | assumption | with_reducible refine below_alloc ?_ _ | with_reducible refine below_grow ?_ _ | with_reducible refine below_drewN ?_ _ | with_reducible refine below_drew ?_ | with_reducible refine below_setCell ?_ (by first | (dsimp only; omega) | (simp; done) | (simp; omega)) _))⟩
  exact StR.as (HR1.out.set3 (tyOf_b (by (repeat (first | exact Below.refl _ _ | assumption | with_reducible refine below_alloc ?_ _ | with_reducible refine below_grow ?_ _ | with_reducible refine below_drewN ?_ _ | with_reducible refine below_drew ?_ | with_reducible refine below_setCell ?_ (by first | (dsimp only; omega) | (simp; done) | (simp; omega)) _)))) _ _ _) (by rfl)
set_option maxHeartbeats 4000000 in
theorem program_39 {x : St} {c : Int} {p : Nat} {v : Value} {w : World} (h : StR w v x) (hl : x.l.length ≤ 1073741824) (hne : x.l ≠ []) : Calls Tryd.prog 88 #[v, .int .u8 c, .int .u8 39, .int .i64 p] w (StP w (program x c 39 p)) := by
  obtain ⟨A, cp, rfl, hc0, hd0, hs, ht⟩ := h.form
  have HR0 := Lib.hid h
  clear h hs ht
  go_enter Tryd.func88, Tryd.ntmps88
  go_wp2_with (first
    | (go_at_call 57; (refine (mark_any HR1.out _).mono ?_); intro e w2 h2; obtain ⟨s2, A2, n2, c2, f2, rfl, hc2, hd2, hr2, hb2⟩ := h2.out; (first | obtain ⟨g2, rfl⟩ := to_grow2 hb2 | obtain ⟨g2, rfl⟩ := to_grow hb2); have HR2 := Lib.hid hr2; clear hr2 hb2 h2)
    | (go_at_call 89; (refine (push_any (HR0.out.below (by (repeat (first | exact Below.refl _ _ | assumption | with_reducible refine below_alloc ?_ _ | with_reducible refine below_grow ?_ _ | with_reducible refine below_drewN ?_ _ | with_reducible refine below_drew ?_ | with_reducible refine below_setCell ?_ (by first | (dsimp only; omega) | (simp; done) | (simp; omega)) _)))) hl).mono ?_); intro e w1 h1; obtain ⟨s1, A1, n1, c1, f1, rfl, hc1, hd1, hr1, hb1⟩ := h1.out; (first | obtain ⟨g1, rfl⟩ := to_grow2 hb1 | obtain ⟨g1, rfl⟩ := to_grow hb1); have HR1 := Lib.hid hr1; clear hr1 hb1 h1))
  refine bodyPost_ret (v := .agg #[.string (B s2), .slice A2 n2 c2, .bool f2]) (by simp [results, Tryd.results88, go_sem]) rfl ?_
  refine ⟨_, rfl, ?_, by (repeat (first | exact Below.refl _ _ | assumption | with_reducible refine below_alloc ?_ _ | with_reducible refine below_grow ?_ _ | with_reducible refine below_drewN ?_ _ | with_reducible refine below_drew ?_ | with_reducible refine below_setCell ?_ (by first | (dsimp only; omega) | (simp; done) | (simp; omega)) _))⟩
  exact StR.as (HR2.out.set3 (tyOf_b (by (repeat (first | exact Below.refl _ _ | assumption | with_reducible refine below_alloc ?_ _ | with_reducible refine below_grow ?_ _ | with_reducible refine below_drewN ?_ _ | with_reducible refine below_drew ?_ | with_reducible refine below_setCell ?_ (by first | (dsimp only; omega) | (simp; done) | (simp; omega)) _)))) _ _ _) (by rfl)
set_option maxHeartbeats 4000000 in
theorem program_34 {x : St} {c : Int} {p : Nat} {v : Value} {w : World} (h : StR w v x) (hl : x.l.length ≤ 1073741824) (hne : x.l ≠ []) : Calls Tryd.prog 88 #[v, .int .u8 c, .int .u8 34, .int .i64 p] w (StP w (program x c 34 p)) := by
  obtain ⟨A, cp, rfl, hc0, hd0, hs, ht⟩ := h.form
  have HR0 := Lib.hid h
  clear h hs ht
  go_enter Tryd.func88, Tryd.ntmps88
  go_wp2_with (first
    | (go_at_call 57; (refine (mark_any HR1.out _).mono ?_); intro e w2 h2; obtain ⟨s2, A2, n2, c2, f2, rfl, hc2, hd2, hr2, hb2⟩ := h2.out; (first | obtain ⟨g2, rfl⟩ := to_grow2 hb2 | obtain ⟨g2, rfl⟩ := to_grow hb2); have HR2 := Lib.hid hr2; clear hr2 hb2 h2)
    | (go_at_call 89; (refine (push_any (HR0.out.below (by (repeat (first | exact Below.refl _ _ | assumption | with_reducible refine below_alloc ?_ _ | with_reducible refine below_grow ?_ _ | with_reducible refine below_drewN ?_ _ | with_reducible refine below_drew ?_ | with_reducible refine below_setCell ?_ (by first | (dsimp only; omega) | (simp; done) | (simp; omega)) _)))) hl).mono ?_); intro e w1 h1; obtain ⟨s1, A1, n1, c1, f1, rfl, hc1, hd1, hr1, hb1⟩ := h1.out; (first | obtain ⟨g1, rfl⟩ := to_grow2 hb1 | obtain ⟨g1, rfl⟩ := to_grow hb1); have HR1 := Lib.hid hr1; clear hr1 hb1 h1))
  refine bodyPost_ret (v := .agg #[.string (B s2), .slice A2 n2 c2, .bool f2]) (by simp [results, Tryd.results88, go_sem]) rfl ?_
  refine ⟨_, rfl, ?_, by (repeat (first | exact Below.refl _ _ | assumption | with_reducible refine below_alloc ?_ _ | with_reducible refine below_grow ?_ _ | with_reducible refine below_drewN ?_ _ | with_reducible refine below_drew ?_ | with_reducible refine below_setCell ?_ (by first | (dsimp only; omega) | (simp; done) | (simp; omega)) _))⟩
  exact StR.as (HR2.out.set3 (tyOf_b (by (repeat (first | exact Below.refl _ _ | assumption | with_reducible refine below_alloc ?_ _ | with_reducible refine below_grow ?_ _ | with_reducible refine below_drewN ?_ _ | with_reducible refine below_drew ?_ | with_reducible refine below_setCell ?_ (by first | (dsimp only; omega) | (simp; done) | (simp; omega)) _)))) _ _ _) (by rfl)
set_option maxHeartbeats 4000000 in
theorem program_96 {x : St} {c : Int} {p : Nat} {v : Value} {w : World} (h : StR w v x) (hl : x.l.length ≤ 1073741824) (hne : x.l ≠ []) : Calls Tryd.prog 88 #[v, .int .u8 c, .int .u8 96, .int .i64 p] w (StP w (program x c 96 p)) := by
  obtain ⟨A, cp, rfl, hc0, hd0, hs, ht⟩ := h.form
  have HR0 := Lib.hid h
  clear h hs ht
  go_enter Tryd.func88, Tryd.ntmps88
  go_wp2
  (refine wp_region_grow_tail 4 (by kernel_rfl) (by kernel_rfl) ?_; simp only [List.take_succ_cons, List.take_zero, List.drop_succ_cons, List.drop_zero]; (repeat (go_big_quiet_step ((go_at_call 90; exact grow_same (opens_96 _))))); refine wpQuiet_nil ?_; intro _ hw'; obtain ⟨gq, hw''⟩ := hw'; subst hw'')
  go_wp2_with (first
    | (go_at_call 57; (refine (mark_any HR1.out _).mono ?_); intro e w2 h2; obtain ⟨s2, A2, n2, c2, f2, rfl, hc2, hd2, hr2, hb2⟩ := h2.out; (first | obtain ⟨g2, rfl⟩ := to_grow2 hb2 | obtain ⟨g2, rfl⟩ := to_grow hb2); have HR2 := Lib.hid hr2; clear hr2 hb2 h2)
    | (go_at_call 89; (refine (push_any (HR0.out.below (by (repeat (first | exact Below.refl _ _ | assumption | with_reducible refine below_alloc ?_ _ | with_reducible refine below_grow ?_ _ | with_reducible refine below_drewN ?_ _ | with_reducible refine below_drew ?_ | with_reducible refine below_setCell ?_ (by first | (dsimp only; omega) | (simp; done) | (simp; omega)) _)))) hl).mono ?_); intro e w1 h1; obtain ⟨s1, A1, n1, c1, f1, rfl, hc1, hd1, hr1, hb1⟩ := h1.out; (first | obtain ⟨g1, rfl⟩ := to_grow2 hb1 | obtain ⟨g1, rfl⟩ := to_grow hb1); have HR1 := Lib.hid hr1; clear hr1 hb1 h1))
  refine bodyPost_ret (v := .agg #[.string (B s2), .slice A2 n2 c2, .bool f2]) (by simp [results, Tryd.results88, go_sem]) rfl ?_
  refine ⟨_, rfl, ?_, by (repeat (first | exact Below.refl _ _ | assumption | with_reducible refine below_alloc ?_ _ | with_reducible refine below_grow ?_ _ | with_reducible refine below_drewN ?_ _ | with_reducible refine below_drew ?_ | with_reducible refine below_setCell ?_ (by first | (dsimp only; omega) | (simp; done) | (simp; omega)) _))⟩
  exact StR.as (HR2.out.set3 (tyOf_b (by (repeat (first | exact Below.refl _ _ | assumption | with_reducible refine below_alloc ?_ _ | with_reducible refine below_grow ?_ _ | with_reducible refine below_drewN ?_ _ | with_reducible refine below_drew ?_ | with_reducible refine below_setCell ?_ (by first | (dsimp only; omega) | (simp; done) | (simp; omega)) _)))) _ _ _) (by rfl)
set_option maxHeartbeats 4000000 in
theorem program_36 {x : St} {c : Int} {p : Nat} {v : Value} {w : World} (h : StR w v x) (hl : x.l.length ≤ 1073741824) (hne : x.l ≠ []) : Calls Tryd.prog 88 #[v, .int .u8 c, .int .u8 36, .int .i64 p] w (StP w (program x c 36 p)) := by
  obtain ⟨A, cp, rfl, hc0, hd0, hs, ht⟩ := h.form
  have HR0 := Lib.hid h
  clear h hs ht
  go_enter Tryd.func88, Tryd.ntmps88
  go_wp2
  (refine wp_region_grow_tail 4 (by kernel_rfl) (by kernel_rfl) ?_; simp only [List.take_succ_cons, List.take_zero, List.drop_succ_cons, List.drop_zero]; (repeat (go_big_quiet_step ((go_at_call 90; exact grow_same (opens_36 _))))); refine wpQuiet_nil ?_; intro _ hw'; obtain ⟨gq, hw''⟩ := hw'; subst hw'')
  go_wp2_with (first
    | (go_at_call 57; (refine (mark_any HR1.out _).mono ?_); intro e w2 h2; obtain ⟨s2, A2, n2, c2, f2, rfl, hc2, hd2, hr2, hb2⟩ := h2.out; (first | obtain ⟨g2, rfl⟩ := to_grow2 hb2 | obtain ⟨g2, rfl⟩ := to_grow hb2); have HR2 := Lib.hid hr2; clear hr2 hb2 h2)
    | (go_at_call 89; (refine (push_any (HR0.out.below (by (repeat (first | exact Below.refl _ _ | assumption | with_reducible refine below_alloc ?_ _ | with_reducible refine below_grow ?_ _ | with_reducible refine below_drewN ?_ _ | with_reducible refine below_drew ?_ | with_reducible refine below_setCell ?_ (by first | (dsimp only; omega) | (simp; done) | (simp; omega)) _)))) hl).mono ?_); intro e w1 h1; obtain ⟨s1, A1, n1, c1, f1, rfl, hc1, hd1, hr1, hb1⟩ := h1.out; (first | obtain ⟨g1, rfl⟩ := to_grow2 hb1 | obtain ⟨g1, rfl⟩ := to_grow hb1); have HR1 := Lib.hid hr1; clear hr1 hb1 h1))
  refine bodyPost_ret (v := .agg #[.string (B s2), .slice A2 n2 c2, .bool f2]) (by simp [results, Tryd.results88, go_sem]) rfl ?_
  refine ⟨_, rfl, ?_, by (repeat (first | exact Below.refl _ _ | assumption | with_reducible refine below_alloc ?_ _ | with_reducible refine below_grow ?_ _ | with_reducible refine below_drewN ?_ _ | with_reducible refine below_drew ?_ | with_reducible refine below_setCell ?_ (by first | (dsimp only; omega) | (simp; done) | (simp; omega)) _))⟩
  exact StR.as (HR2.out.set3 (tyOf_b (by (repeat (first | exact Below.refl _ _ | assumption | with_reducible refine below_alloc ?_ _ | with_reducible refine below_grow ?_ _ | with_reducible refine below_drewN ?_ _ | with_reducible refine below_drew ?_ | with_reducible refine below_setCell ?_ (by first | (dsimp only; omega) | (simp; done) | (simp; omega)) _)))) _ _ _) (by rfl)
set_option maxHeartbeats 4000000 in
theorem program_35 {x : St} {c : Int} {p : Nat} {v : Value} {w : World} (h : StR w v x) (hl : x.l.length ≤ 1073741824) (hne : x.l ≠ []) : Calls Tryd.prog 88 #[v, .int .u8 c, .int .u8 35, .int .i64 p] w (StP w (program x c 35 p)) := by
  obtain ⟨A, cp, rfl, hc0, hd0, hs, ht⟩ := h.form
  have HR0 := Lib.hid h
  clear h hs ht
  have HEN := Lib.hid fun w => refEnds_any 35 w
  rw [show ((35 : UInt8).toNat : Int) = 35 by decide] at HEN
  cases hf : x.f with
  | true =>
    rw [hf] at HR0
    go_enter Tryd.func88, Tryd.ntmps88
    go_wp2_with (first
      | (go_at_call 89; (refine (push_any (HR0.out.below (by (repeat (first | exact Below.refl _ _ | assumption | with_reducible refine below_alloc ?_ _ | with_reducible refine below_grow ?_ _ | with_reducible refine below_drewN ?_ _ | with_reducible refine below_drew ?_ | with_reducible refine below_setCell ?_ (by first | (dsimp only; omega) | (simp; done) | (simp; omega)) _)))) hl).mono ?_); intro e w1 h1; obtain ⟨s1, A1, n1, c1, f1, rfl, hc1, hd1, hr1, hb1⟩ := h1.out; (first | obtain ⟨g1, rfl⟩ := to_grow2 hb1 | obtain ⟨g1, rfl⟩ := to_grow hb1); have HR1 := Lib.hid hr1; clear hr1 hb1 h1))
    refine bodyPost_ret (v := .agg #[.string (B s1), .slice A1 n1 c1, .bool f1]) (by simp [results, Tryd.results88, go_sem]) rfl ?_
    refine ⟨_, rfl, ?_, by (repeat (first | exact Below.refl _ _ | assumption | with_reducible refine below_alloc ?_ _ | with_reducible refine below_grow ?_ _ | with_reducible refine below_drewN ?_ _ | with_reducible refine below_drew ?_ | with_reducible refine below_setCell ?_ (by first | (dsimp only; omega) | (simp; done) | (simp; omega)) _))⟩
    exact StR.as (HR1.out.set3 (tyOf_b (by (repeat (first | exact Below.refl _ _ | assumption | with_reducible refine below_alloc ?_ _ | with_reducible refine below_grow ?_ _ | with_reducible refine below_drewN ?_ _ | with_reducible refine below_drew ?_ | with_reducible refine below_setCell ?_ (by first | (dsimp only; omega) | (simp; done) | (simp; omega)) _)))) _ _ _) (by unfold program; simp [hf])
  | false =>
    rw [hf] at HR0
    go_enter Tryd.func88, Tryd.ntmps88
    go_wp2
    (refine wp_region_grow_tail 3 (by kernel_rfl) (by kernel_rfl) ?_; simp only [List.take_succ_cons, List.take_zero, List.drop_succ_cons, List.drop_zero]; (repeat (go_big_quiet_step ((go_at_call 82; exact grow_same (HEN.out _))))); refine wpQuiet_nil ?_; intro _ hw'; obtain ⟨gq, hw''⟩ := hw'; subst hw'')
    go_wp2_with (first | (go_at_call 57; (refine (mark_any (HR0.out.below (by (repeat (first | exact Below.refl _ _ | assumption | with_reducible refine below_alloc ?_ _ | with_reducible refine below_grow ?_ _ | with_reducible refine below_drewN ?_ _ | with_reducible refine below_drew ?_ | with_reducible refine below_setCell ?_ (by first | (dsimp only; omega) | (simp; done) | (simp; omega)) _)))) _).mono ?_); intro e w1 h1; obtain ⟨s1, A1, n1, c1, f1, rfl, hc1, hd1, hr1, hb1⟩ := h1.out; (first | obtain ⟨g1, rfl⟩ := to_grow2 hb1 | obtain ⟨g1, rfl⟩ := to_grow hb1); have HR1 := Lib.hid hr1; clear hr1 hb1 h1))
    refine bodyPost_ret (v := .agg #[.string (B s1), .slice A1 n1 c1, .bool f1]) (by simp [results, Tryd.results88, go_sem]) rfl ?_
    refine ⟨_, rfl, ?_, by (repeat (first | exact Below.refl _ _ | assumption | with_reducible refine below_alloc ?_ _ | with_reducible refine below_grow ?_ _ | with_reducible refine below_drewN ?_ _ | with_reducible refine below_drew ?_ | with_reducible refine below_setCell ?_ (by first | (dsimp only; omega) | (simp; done) | (simp; omega)) _))⟩
    exact StR.as (HR1.out.set3 (tyOf_b (by (repeat (first | exact Below.refl _ _ | assumption | with_reducible refine below_alloc ?_ _ | with_reducible refine below_grow ?_ _ | with_reducible refine below_drewN ?_ _ | with_reducible refine below_drew ?_ | with_reducible refine below_setCell ?_ (by first | (dsimp only; omega) | (simp; done) | (simp; omega)) _)))) _ _ _) (by unfold program; simp [hf]; rfl)
set_option maxHeartbeats 4000000 in
theorem program_40 {x : St} {c : Int} {p : Nat} {v : Value} {w : World} (h : StR w v x) (hl : x.l.length ≤ 1073741824) (hne : x.l ≠ []) : Calls Tryd.prog 88 #[v, .int .u8 c, .int .u8 40, .int .i64 p] w (StP w (program x c 40 p)) := by
  obtain ⟨A, cp, rfl, hc0, hd0, hs, ht⟩ := h.form
  have HR0 := Lib.hid h
  clear h hs ht
  go_enter Tryd.func88, Tryd.ntmps88
  go_wp2_with (first
    | (go_at_call 57; (refine (mark_any HR1.out _).mono ?_); intro e w2 h2; obtain ⟨s2, A2, n2, c2, f2, rfl, hc2, hd2, hr2, hb2⟩ := h2.out; (first | obtain ⟨g2, rfl⟩ := to_grow2 hb2 | obtain ⟨g2, rfl⟩ := to_grow hb2); have HR2 := Lib.hid hr2; clear hr2 hb2 h2)
    | (go_at_call 89; (refine (push_any (HR0.out.below (by (repeat (first | exact Below.refl _ _ | assumption | with_reducible refine below_alloc ?_ _ | with_reducible refine below_grow ?_ _ | with_reducible refine below_drewN ?_ _ | with_reducible refine below_drew ?_ | with_reducible refine below_setCell ?_ (by first | (dsimp only; omega) | (simp; done) | (simp; omega)) _)))) hl).mono ?_); intro e w1 h1; obtain ⟨s1, A1, n1, c1, f1, rfl, hc1, hd1, hr1, hb1⟩ := h1.out; (first | obtain ⟨g1, rfl⟩ := to_grow2 hb1 | obtain ⟨g1, rfl⟩ := to_grow hb1); have HR1 := Lib.hid hr1; clear hr1 hb1 h1)
    | (go_at_call 57; (refine (mark_any (HR0.out.below (by (repeat (first | exact Below.refl _ _ | assumption | with_reducible refine below_alloc ?_ _ | with_reducible refine below_grow ?_ _ | with_reducible refine below_drewN ?_ _ | with_reducible refine below_drew ?_ | with_reducible refine below_setCell ?_ (by first | (dsimp only; omega) | (simp; done) | (simp; omega)) _)))) _).mono ?_); intro e w1 h1; obtain ⟨s1, A1, n1, c1, f1, rfl, hc1, hd1, hr1, hb1⟩ := h1.out; (first | obtain ⟨g1, rfl⟩ := to_grow2 hb1 | obtain ⟨g1, rfl⟩ := to_grow hb1); have HR1 := Lib.hid hr1; clear hr1 hb1 h1))
  all_goals first
    | (refine bodyPost_ret (v := .agg #[.string (B s2), .slice A2 n2 c2, .bool f2]) (by simp [results, Tryd.results88, go_sem]) rfl ?_
       refine ⟨_, rfl, ?_, by (repeat (first | exact Below.refl _ _ | assumption | with_reducible refine below_alloc ?_ _ | with_reducible refine below_grow ?_ _ | with_reducible refine below_drewN ?_ _ | with_reducible refine below_drew ?_ | with_reducible refine below_setCell ?_ (by first | (dsimp only; omega) | (simp; done) | (simp; omega)) _))⟩
       exact StR.as (HR2.out.set3 (tyOf_b (by (repeat (first | exact Below.refl _ _ | assumption | with_reducible refine below_alloc ?_ _ | with_reducible refine below_grow ?_ _ | with_reducible refine below_drewN ?_ _ | with_reducible refine below_drew ?_ | with_reducible refine below_setCell ?_ (by first | (dsimp only; omega) | (simp; done) | (simp; omega)) _)))) _ _ _) (by unfold program; simp [*]))
    | (refine bodyPost_ret (v := .agg #[.string (B s1), .slice A1 n1 c1, .bool f1]) (by simp [results, Tryd.results88, go_sem]) rfl ?_
       refine ⟨_, rfl, ?_, by (repeat (first | exact Below.refl _ _ | assumption | with_reducible refine below_alloc ?_ _ | with_reducible refine below_grow ?_ _ | with_reducible refine below_drewN ?_ _ | with_reducible refine below_drew ?_ | with_reducible refine below_setCell ?_ (by first | (dsimp only; omega) | (simp; done) | (simp; omega)) _))⟩
       exact StR.as (HR1.out.set3 (tyOf_b (by (repeat (first | exact Below.refl _ _ | assumption | with_reducible refine below_alloc ?_ _ | with_reducible refine below_grow ?_ _ | with_reducible refine below_drewN ?_ _ | with_reducible refine below_drew ?_ | with_reducible refine below_setCell ?_ (by first | (dsimp only; omega) | (simp; done) | (simp; omega)) _)))) _ _ _) (by unfold program; simp [*]))
set_option maxHeartbeats 4000000 in
theorem program_41 {x : St} {c : Int} {p : Nat} {v : Value} {w : World} (h : StR w v x) (hl : x.l.length ≤ 1073741824) (hne : x.l ≠ []) : Calls Tryd.prog 88 #[v, .int .u8 c, .int .u8 41, .int .i64 p] w (StP w (program x c 41 p)) := by
  obtain ⟨A, cp, rfl, hc0, hd0, hs, ht⟩ := h.form
  have HR0 := Lib.hid h
  clear h hs ht
  go_enter Tryd.func88, Tryd.ntmps88
  go_wp2_with (first
    | (go_at_call 57; (refine (mark_any HR1.out _).mono ?_); intro e w2 h2; obtain ⟨s2, A2, n2, c2, f2, rfl, hc2, hd2, hr2, hb2⟩ := h2.out; (first | obtain ⟨g2, rfl⟩ := to_grow2 hb2 | obtain ⟨g2, rfl⟩ := to_grow hb2); have HR2 := Lib.hid hr2; clear hr2 hb2 h2)
    | (go_at_call 59; (refine (pop_x (HR0.out.below (by (repeat (first | exact Below.refl _ _ | assumption | with_reducible refine below_alloc ?_ _ | with_reducible refine below_grow ?_ _ | with_reducible refine below_drewN ?_ _ | with_reducible refine below_drew ?_ | with_reducible refine below_setCell ?_ (by first | (dsimp only; omega) | (simp; done) | (simp; omega)) _)))) hne hl).mono ?_); intro e w1 h1; obtain ⟨s1, A1, n1, c1, f1, rfl, hc1, hd1, hr1, hb1⟩ := h1.out; (first | obtain ⟨g1, rfl⟩ := to_grow2 hb1 | obtain ⟨g1, rfl⟩ := to_grow hb1); have HR1 := Lib.hid hr1; clear hr1 hb1 h1)
    | (go_at_call 57; (refine (mark_any (HR0.out.below (by (repeat (first | exact Below.refl _ _ | assumption | with_reducible refine below_alloc ?_ _ | with_reducible refine below_grow ?_ _ | with_reducible refine below_drewN ?_ _ | with_reducible refine below_drew ?_ | with_reducible refine below_setCell ?_ (by first | (dsimp only; omega) | (simp; done) | (simp; omega)) _)))) _).mono ?_); intro e w1 h1; obtain ⟨s1, A1, n1, c1, f1, rfl, hc1, hd1, hr1, hb1⟩ := h1.out; (first | obtain ⟨g1, rfl⟩ := to_grow2 hb1 | obtain ⟨g1, rfl⟩ := to_grow hb1); have HR1 := Lib.hid hr1; clear hr1 hb1 h1))
  all_goals first
    | (refine bodyPost_ret (v := .agg #[.string (B s2), .slice A2 n2 c2, .bool f2]) (by simp [results, Tryd.results88, go_sem]) rfl ?_
       refine ⟨_, rfl, ?_, by (repeat (first | exact Below.refl _ _ | assumption | with_reducible refine below_alloc ?_ _ | with_reducible refine below_grow ?_ _ | with_reducible refine below_drewN ?_ _ | with_reducible refine below_drew ?_ | with_reducible refine below_setCell ?_ (by first | (dsimp only; omega) | (simp; done) | (simp; omega)) _))⟩
       exact StR.as (HR2.out.set3 (tyOf_b (by (repeat (first | exact Below.refl _ _ | assumption | with_reducible refine below_alloc ?_ _ | with_reducible refine below_grow ?_ _ | with_reducible refine below_drewN ?_ _ | with_reducible refine below_drew ?_ | with_reducible refine below_setCell ?_ (by first | (dsimp only; omega) | (simp; done) | (simp; omega)) _)))) _ _ _) (by unfold program; simp [*]))
    | (refine bodyPost_ret (v := .agg #[.string (B s1), .slice A1 n1 c1, .bool f1]) (by simp [results, Tryd.results88, go_sem]) rfl ?_
       refine ⟨_, rfl, ?_, by (repeat (first | exact Below.refl _ _ | assumption | with_reducible refine below_alloc ?_ _ | with_reducible refine below_grow ?_ _ | with_reducible refine below_drewN ?_ _ | with_reducible refine below_drew ?_ | with_reducible refine below_setCell ?_ (by first | (dsimp only; omega) | (simp; done) | (simp; omega)) _))⟩
       exact StR.as (HR1.out.set3 (tyOf_b (by (repeat (first | exact Below.refl _ _ | assumption | with_reducible refine below_alloc ?_ _ | with_reducible refine below_grow ?_ _ | with_reducible refine below_drewN ?_ _ | with_reducible refine below_drew ?_ | with_reducible refine below_setCell ?_ (by first | (dsimp only; omega) | (simp; done) | (simp; omega)) _)))) _ _ _) (by unfold program; simp [*]))
set_option maxHeartbeats 4000000 in
theorem program_else {x : St} {c : Int} (u : UInt8) {b : Int} (hbu : b = (u.toNat : Int)) {p : Nat} {v : Value} {w : World} (h : StR w v x) (hl : x.l.length ≤ 1073741824) (d92 : (b == 92) = false) (d39 : (b == 39) = false) (d34 : (b == 34) = false) (d96 : (b == 96) = false) (d36 : (b == 36) = false) (d35 : (b == 35) = false) (d40 : (b == 40) = false) (d41 : (b == 41) = false) : Calls Tryd.prog 88 #[v, .int .u8 c, .int .u8 b, .int .i64 p] w (StP w (program x c b p)) := by
  obtain ⟨A, cp, rfl, hc0, hd0, hs, ht⟩ := h.form
  have HR0 := Lib.hid h
  clear h hs ht
  have HEN := Lib.hid fun w => refEnds_any u w
  have HP := Lib.hid (show program x c b p = x.mark (endsB u) by rw [show endsB u = endsI b by rw [hbu]; rfl]; unfold program; simp only [d92, d39, d34, d96, d36, d35, d40, d41, Bool.false_and, Bool.false_eq_true, if_false])
  rw [← hbu] at HEN
  clear hbu
  generalize endsB u = eb at *
  go_enter Tryd.func88, Tryd.ntmps88
  go_wp2
  (refine wp_region_grow_tail 3 (by kernel_rfl) (by kernel_rfl) ?_; simp only [List.take_succ_cons, List.take_zero, List.drop_succ_cons, List.drop_zero]; (repeat (go_big_quiet_step ((go_at_call 82; exact grow_same (HEN.out _))))); refine wpQuiet_nil ?_; intro _ hw'; obtain ⟨gq, hw''⟩ := hw'; subst hw'')
  go_wp2_with (first | (go_at_call 57; (refine (mark_any (HR0.out.below (by (repeat (first | exact Below.refl _ _ | assumption | with_reducible refine below_alloc ?_ _ | with_reducible refine below_grow ?_ _ | with_reducible refine below_drewN ?_ _ | with_reducible refine below_drew ?_ | with_reducible refine below_setCell ?_ (by first | (dsimp only; omega) | (simp; done) | (simp; omega)) _)))) _).mono ?_); intro e w1 h1; obtain ⟨s1, A1, n1, c1, f1, rfl, hc1, hd1, hr1, hb1⟩ := h1.out; (first | obtain ⟨g1, rfl⟩ := to_grow2 hb1 | obtain ⟨g1, rfl⟩ := to_grow hb1); have HR1 := Lib.hid hr1; clear hr1 hb1 h1))
  refine bodyPost_ret (v := .agg #[.string (B s1), .slice A1 n1 c1, .bool f1]) (by simp [results, Tryd.results88, go_sem]) rfl ?_
  refine ⟨_, rfl, ?_, by (repeat (first | exact Below.refl _ _ | assumption | with_reducible refine below_alloc ?_ _ | with_reducible refine below_grow ?_ _ | with_reducible refine below_drewN ?_ _ | with_reducible refine below_drew ?_ | with_reducible refine below_setCell ?_ (by first | (dsimp only; omega) | (simp; done) | (simp; omega)) _))⟩
  exact StR.as (HR1.out.set3 (tyOf_b (by (repeat (first | exact Below.refl _ _ | assumption | with_reducible refine below_alloc ?_ _ | with_reducible refine below_grow ?_ _ | with_reducible refine below_drewN ?_ _ | with_reducible refine below_drew ?_ | with_reducible refine below_setCell ?_ (by first | (dsimp only; omega) | (simp; done) | (simp; omega)) _)))) _ _ _) (by rw [HP.out])
theorem program_any {x : St} {c b : Int} {p : Nat} {v : Value} {w : World} (h : StR w v x) (hl : x.l.length ≤ 1073741824) (hne : x.l ≠ []) (hb : ∃ u : UInt8, b = u.toNat) : Calls Tryd.prog 88 #[v, .int .u8 c, .int .u8 b, .int .i64 p] w (StP w (program x c b p)) := by
  by_cases e92 : b = 92
  · subst e92; exact program_92 h hl hne
  have d92 : (b == 92) = false := by simpa using e92
  by_cases e39 : b = 39
  · subst e39; exact program_39 h hl hne
  have d39 : (b == 39) = false := by simpa using e39
  by_cases e34 : b = 34
  · subst e34; exact program_34 h hl hne
  have d34 : (b == 34) = false := by simpa using e34
  by_cases e96 : b = 96
  · subst e96; exact program_96 h hl hne
  have d96 : (b == 96) = false := by simpa using e96
  by_cases e36 : b = 36
  · subst e36; exact program_36 h hl hne
  have d36 : (b == 36) = false := by simpa using e36
  by_cases e35 : b = 35
  · subst e35; exact program_35 h hl hne
  have d35 : (b == 35) = false := by simpa using e35
  by_cases e40 : b = 40
  · subst e40; exact program_40 h hl hne
  have d40 : (b == 40) = false := by simpa using e40
  by_cases e41 : b = 41
  · subst e41; exact program_41 h hl hne
  have d41 : (b == 41) = false := by simpa using e41
  obtain ⟨u, hu⟩ := hb
  exact program_else u hu h hl d92 d39 d34 d96 d36 d35 d40 d41
end Go.Proofs.YtadlaaddpobhbaaDoor.Md
