/-
  The walks of layer 6's reference (modes), on: a byte comes to any mode but those that become another one first. Conditions: stacks of at most 2^30 modes.
-/
import Derived.Test.YtadlaaddpobhbaaDoorMod2
namespace Go.Proofs.YtadlaaddpobhbaaDoor.Md
set_option linter.unusedSimpArgs false
set_option linter.unusedVariables false
open Go.ChangeShapes Go.WideShapes Go.Deep Go.RowKit Cls
set_option maxRecDepth 100000
theorem tyOf_b0 {w w' : World} {o : Obj} {cs : Array Value} {t : TypeId} (hb : Below ((w.alloc (.cells cs t)).alloc o).heap.size ((w.alloc (.cells cs t)).alloc o) w') : tyOf w' w.heap.size = some t :=
  (tyOf_of_block (hb.block _ (by simp; omega))).trans ((tyOf_alloc_lt _ _ _ (by simp)).trans (tyOf_alloc _ _ _))
theorem tyOf_bs {w : World} {r : Nat} {t : TypeId} (k : Nat) (u0 u1 u2 : Value) (h : tyOf w r = some t) : tyOf (((w.setCell ⟨k, 0, none⟩ u0).setCell ⟨k, 1, none⟩ u1).setCell ⟨k, 2, none⟩ u2) r = some t := by
  rw [tyOf_setCell, tyOf_setCell, tyOf_setCell]; exact h
set_option maxHeartbeats 4000000 in
theorem plain_c84 {x : St} {c b : Int} {p : Nat} {v : Value} {w : World} (h : StR w v x) (hl : x.l.length ≤ 1073741824) (hne : x.l ≠ []) (hb : ∃ u : UInt8, b = u.toNat) : Calls Tryd.prog 60 #[v, .int .u8 84, .int .u8 b, .int .i64 p] w (StP w (plain x 84 b p)) := by
  obtain ⟨A, cp, rfl, hc0, hd0, hs, ht⟩ := h.form
  have HR0 := Lib.hid h
  clear h hs ht
  go_enter Tryd.func60, Tryd.ntmps60
  go_wp2_with (first
    | (go_at_call 88; (refine (program_any (HR0.out.below (by (repeat (first | exact Below.refl _ _ | assumption | with_reducible refine below_alloc ?_ _ | with_reducible refine below_grow ?_ _ | with_reducible refine below_drewN ?_ _ | with_reducible refine below_drew ?_ | with_reducible refine below_setCell ?_ (by first | (dsimp only; omega) | (simp; done) | (simp; omega)) _)))) hl hne hb).mono ?_); intro e w1 h1; obtain ⟨s1, A1, n1, c1, f1, rfl, hc1, hd1, hr1, hb1⟩ := h1.out; (first | obtain ⟨g1, rfl⟩ := to_grow2 hb1 | obtain ⟨g1, rfl⟩ := to_grow hb1); have HR1 := Lib.hid hr1; clear hr1 hb1 h1))
  refine bodyPost_ret (v := .agg #[.string (B s1), .slice A1 n1 c1, .bool f1]) (by simp [results, Tryd.results60, go_sem]) rfl ?_
  refine ⟨_, rfl, ?_, by (repeat (first | exact Below.refl _ _ | assumption | with_reducible refine below_alloc ?_ _ | with_reducible refine below_grow ?_ _ | with_reducible refine below_drewN ?_ _ | with_reducible refine below_drew ?_ | with_reducible refine below_setCell ?_ (by first | (dsimp only; omega) | (simp; done) | (simp; omega)) _))⟩
  exact StR.as (HR1.out.set3 (tyOf_b (by (repeat (first | exact Below.refl _ _ | assumption | with_reducible refine below_alloc ?_ _ | with_reducible refine below_grow ?_ _ | with_reducible refine below_drewN ?_ _ | with_reducible refine below_drew ?_ | with_reducible refine below_setCell ?_ (by first | (dsimp only; omega) | (simp; done) | (simp; omega)) _)))) _ _ _) (by rfl)
set_option maxHeartbeats 4000000 in
theorem plain_c67 {x : St} {c b : Int} {p : Nat} {v : Value} {w : World} (h : StR w v x) (hl : x.l.length ≤ 1073741824) (hne : x.l ≠ []) (hb : ∃ u : UInt8, b = u.toNat) : Calls Tryd.prog 60 #[v, .int .u8 67, .int .u8 b, .int .i64 p] w (StP w (plain x 67 b p)) := by
  obtain ⟨A, cp, rfl, hc0, hd0, hs, ht⟩ := h.form
  have HR0 := Lib.hid h
  clear h hs ht
  go_enter Tryd.func60, Tryd.ntmps60
  go_wp2_with (first
    | (go_at_call 88; (refine (program_any (HR0.out.below (by (repeat (first | exact Below.refl _ _ | assumption | with_reducible refine below_alloc ?_ _ | with_reducible refine below_grow ?_ _ | with_reducible refine below_drewN ?_ _ | with_reducible refine below_drew ?_ | with_reducible refine below_setCell ?_ (by first | (dsimp only; omega) | (simp; done) | (simp; omega)) _)))) hl hne hb).mono ?_); intro e w1 h1; obtain ⟨s1, A1, n1, c1, f1, rfl, hc1, hd1, hr1, hb1⟩ := h1.out; (first | obtain ⟨g1, rfl⟩ := to_grow2 hb1 | obtain ⟨g1, rfl⟩ := to_grow hb1); have HR1 := Lib.hid hr1; clear hr1 hb1 h1))
  refine bodyPost_ret (v := .agg #[.string (B s1), .slice A1 n1 c1, .bool f1]) (by simp [results, Tryd.results60, go_sem]) rfl ?_
  refine ⟨_, rfl, ?_, by (repeat (first | exact Below.refl _ _ | assumption | with_reducible refine below_alloc ?_ _ | with_reducible refine below_grow ?_ _ | with_reducible refine below_drewN ?_ _ | with_reducible refine below_drew ?_ | with_reducible refine below_setCell ?_ (by first | (dsimp only; omega) | (simp; done) | (simp; omega)) _))⟩
  exact StR.as (HR1.out.set3 (tyOf_b (by (repeat (first | exact Below.refl _ _ | assumption | with_reducible refine below_alloc ?_ _ | with_reducible refine below_grow ?_ _ | with_reducible refine below_drewN ?_ _ | with_reducible refine below_drew ?_ | with_reducible refine below_setCell ?_ (by first | (dsimp only; omega) | (simp; done) | (simp; omega)) _)))) _ _ _) (by rfl)
set_option maxHeartbeats 4000000 in
theorem plain_c80 {x : St} {c b : Int} {p : Nat} {v : Value} {w : World} (h : StR w v x) (hl : x.l.length ≤ 1073741824) (hne : x.l ≠ []) (hb : ∃ u : UInt8, b = u.toNat) : Calls Tryd.prog 60 #[v, .int .u8 80, .int .u8 b, .int .i64 p] w (StP w (plain x 80 b p)) := by
  obtain ⟨A, cp, rfl, hc0, hd0, hs, ht⟩ := h.form
  have HR0 := Lib.hid h
  clear h hs ht
  go_enter Tryd.func60, Tryd.ntmps60
  go_wp2_with (first
    | (go_at_call 88; (refine (program_any (HR0.out.below (by (repeat (first | exact Below.refl _ _ | assumption | with_reducible refine below_alloc ?_ _ | with_reducible refine below_grow ?_ _ | with_reducible refine below_drewN ?_ _ | with_reducible refine below_drew ?_ | with_reducible refine below_setCell ?_ (by first | (dsimp only; omega) | (simp; done) | (simp; omega)) _)))) hl hne hb).mono ?_); intro e w1 h1; obtain ⟨s1, A1, n1, c1, f1, rfl, hc1, hd1, hr1, hb1⟩ := h1.out; (first | obtain ⟨g1, rfl⟩ := to_grow2 hb1 | obtain ⟨g1, rfl⟩ := to_grow hb1); have HR1 := Lib.hid hr1; clear hr1 hb1 h1))
  refine bodyPost_ret (v := .agg #[.string (B s1), .slice A1 n1 c1, .bool f1]) (by simp [results, Tryd.results60, go_sem]) rfl ?_
  refine ⟨_, rfl, ?_, by (repeat (first | exact Below.refl _ _ | assumption | with_reducible refine below_alloc ?_ _ | with_reducible refine below_grow ?_ _ | with_reducible refine below_drewN ?_ _ | with_reducible refine below_drew ?_ | with_reducible refine below_setCell ?_ (by first | (dsimp only; omega) | (simp; done) | (simp; omega)) _))⟩
  exact StR.as (HR1.out.set3 (tyOf_b (by (repeat (first | exact Below.refl _ _ | assumption | with_reducible refine below_alloc ?_ _ | with_reducible refine below_grow ?_ _ | with_reducible refine below_drewN ?_ _ | with_reducible refine below_drew ?_ | with_reducible refine below_setCell ?_ (by first | (dsimp only; omega) | (simp; done) | (simp; omega)) _)))) _ _ _) (by rfl)
set_option maxHeartbeats 4000000 in
theorem plain_c83 {x : St} {c b : Int} {p : Nat} {v : Value} {w : World} (h : StR w v x) (hl : x.l.length ≤ 1073741824) (hne : x.l ≠ []) : Calls Tryd.prog 60 #[v, .int .u8 83, .int .u8 b, .int .i64 p] w (StP w (plain x 83 b p)) := by
  obtain ⟨A, cp, rfl, hc0, hd0, hs, ht⟩ := h.form
  have HR0 := Lib.hid h
  clear h hs ht
  go_enter Tryd.func60, Tryd.ntmps60
  go_wp2_with (first
    | (go_at_call 59; (refine (pop_x (HR0.out.below (by (repeat (first | exact Below.refl _ _ | assumption | with_reducible refine below_alloc ?_ _ | with_reducible refine below_grow ?_ _ | with_reducible refine below_drewN ?_ _ | with_reducible refine below_drew ?_ | with_reducible refine below_setCell ?_ (by first | (dsimp only; omega) | (simp; done) | (simp; omega)) _)))) hne hl).mono ?_); intro e w1 h1; obtain ⟨s1, A1, n1, c1, f1, rfl, hc1, hd1, hr1, hb1⟩ := h1.out; (first | obtain ⟨g1, rfl⟩ := to_grow2 hb1 | obtain ⟨g1, rfl⟩ := to_grow hb1); have HR1 := Lib.hid hr1; clear hr1 hb1 h1))
  all_goals first
    | (refine bodyPost_ret (v := .agg #[.string (B s1), .slice A1 n1 c1, .bool f1]) (by simp [results, Tryd.results60, go_sem]) rfl ?_
       refine ⟨_, rfl, ?_, by (repeat (first | exact Below.refl _ _ | assumption | with_reducible refine below_alloc ?_ _ | with_reducible refine below_grow ?_ _ | with_reducible refine below_drewN ?_ _ | with_reducible refine below_drew ?_ | with_reducible refine below_setCell ?_ (by first | (dsimp only; omega) | (simp; done) | (simp; omega)) _))⟩
       exact StR.as (HR1.out.set3 (tyOf_b (by (repeat (first | exact Below.refl _ _ | assumption | with_reducible refine below_alloc ?_ _ | with_reducible refine below_grow ?_ _ | with_reducible refine below_drewN ?_ _ | with_reducible refine below_drew ?_ | with_reducible refine below_setCell ?_ (by first | (dsimp only; omega) | (simp; done) | (simp; omega)) _)))) _ _ _) (by unfold plain; simp [*]))
    | (refine bodyPost_ret (v := .agg #[.string (B (lets x.l)), .slice A x.l.length cp, .bool x.f]) (by simp [results, Tryd.results60, go_sem]) rfl ?_
       refine ⟨_, rfl, ?_, by (repeat (first | exact Below.refl _ _ | assumption | with_reducible refine below_alloc ?_ _ | with_reducible refine below_grow ?_ _ | with_reducible refine below_drewN ?_ _ | with_reducible refine below_drew ?_ | with_reducible refine below_setCell ?_ (by first | (dsimp only; omega) | (simp; done) | (simp; omega)) _))⟩
       exact StR.as (HR0.out.below (by (repeat (first | exact Below.refl _ _ | assumption | with_reducible refine below_alloc ?_ _ | with_reducible refine below_grow ?_ _ | with_reducible refine below_drewN ?_ _ | with_reducible refine below_drew ?_ | with_reducible refine below_setCell ?_ (by first | (dsimp only; omega) | (simp; done) | (simp; omega)) _)))) (by unfold plain; simp [*]))
set_option maxHeartbeats 4000000 in
theorem plain_c35 {x : St} {c b : Int} {p : Nat} {v : Value} {w : World} (h : StR w v x) (hl : x.l.length ≤ 1073741824) (hne : x.l ≠ []) : Calls Tryd.prog 60 #[v, .int .u8 35, .int .u8 b, .int .i64 p] w (StP w (plain x 35 b p)) := by
  obtain ⟨A, cp, rfl, hc0, hd0, hs, ht⟩ := h.form
  have HR0 := Lib.hid h
  clear h hs ht
  go_enter Tryd.func60, Tryd.ntmps60
  go_wp2_with (first
    | (go_at_call 57; (refine (mark_any HR1.out _).mono ?_); intro e w2 h2; obtain ⟨s2, A2, n2, c2, f2, rfl, hc2, hd2, hr2, hb2⟩ := h2.out; (first | obtain ⟨g2, rfl⟩ := to_grow2 hb2 | obtain ⟨g2, rfl⟩ := to_grow hb2); have HR2 := Lib.hid hr2; clear hr2 hb2 h2)
    | (go_at_call 59; (refine (pop_x (HR0.out.below (by (repeat (first | exact Below.refl _ _ | assumption | with_reducible refine below_alloc ?_ _ | with_reducible refine below_grow ?_ _ | with_reducible refine below_drewN ?_ _ | with_reducible refine below_drew ?_ | with_reducible refine below_setCell ?_ (by first | (dsimp only; omega) | (simp; done) | (simp; omega)) _)))) hne hl).mono ?_); intro e w1 h1; obtain ⟨s1, A1, n1, c1, f1, rfl, hc1, hd1, hr1, hb1⟩ := h1.out; (first | obtain ⟨g1, rfl⟩ := to_grow2 hb1 | obtain ⟨g1, rfl⟩ := to_grow hb1); have HR1 := Lib.hid hr1; clear hr1 hb1 h1))
  all_goals first
    | (refine bodyPost_ret (v := .agg #[.string (B s2), .slice A2 n2 c2, .bool f2]) (by simp [results, Tryd.results60, go_sem]) rfl ?_
       refine ⟨_, rfl, ?_, by (repeat (first | exact Below.refl _ _ | assumption | with_reducible refine below_alloc ?_ _ | with_reducible refine below_grow ?_ _ | with_reducible refine below_drewN ?_ _ | with_reducible refine below_drew ?_ | with_reducible refine below_setCell ?_ (by first | (dsimp only; omega) | (simp; done) | (simp; omega)) _))⟩
       exact StR.as (HR2.out.set3 (tyOf_b (by (repeat (first | exact Below.refl _ _ | assumption | with_reducible refine below_alloc ?_ _ | with_reducible refine below_grow ?_ _ | with_reducible refine below_drewN ?_ _ | with_reducible refine below_drew ?_ | with_reducible refine below_setCell ?_ (by first | (dsimp only; omega) | (simp; done) | (simp; omega)) _)))) _ _ _) (by unfold plain; simp [*]))
    | (refine bodyPost_ret (v := .agg #[.string (B (lets x.l)), .slice A x.l.length cp, .bool x.f]) (by simp [results, Tryd.results60, go_sem]) rfl ?_
       refine ⟨_, rfl, ?_, by (repeat (first | exact Below.refl _ _ | assumption | with_reducible refine below_alloc ?_ _ | with_reducible refine below_grow ?_ _ | with_reducible refine below_drewN ?_ _ | with_reducible refine below_drew ?_ | with_reducible refine below_setCell ?_ (by first | (dsimp only; omega) | (simp; done) | (simp; omega)) _))⟩
       exact StR.as (HR0.out.below (by (repeat (first | exact Below.refl _ _ | assumption | with_reducible refine below_alloc ?_ _ | with_reducible refine below_grow ?_ _ | with_reducible refine below_drewN ?_ _ | with_reducible refine below_drew ?_ | with_reducible refine below_setCell ?_ (by first | (dsimp only; omega) | (simp; done) | (simp; omega)) _)))) (by unfold plain; simp [*]))
set_option maxHeartbeats 4000000 in
theorem plain_c66 {x : St} {c b : Int} {p : Nat} {v : Value} {w : World} (h : StR w v x) (hl : x.l.length ≤ 1073741824) (hne : x.l ≠ []) : Calls Tryd.prog 60 #[v, .int .u8 66, .int .u8 b, .int .i64 p] w (StP w (plain x 66 b p)) := by
  obtain ⟨A, cp, rfl, hc0, hd0, hs, ht⟩ := h.form
  have HR0 := Lib.hid h
  clear h hs ht
  go_enter Tryd.func60, Tryd.ntmps60
  go_wp2_with (first
    | (go_at_call 59; (refine (pop_x (HR0.out.below (by (repeat (first | exact Below.refl _ _ | assumption | with_reducible refine below_alloc ?_ _ | with_reducible refine below_grow ?_ _ | with_reducible refine below_drewN ?_ _ | with_reducible refine below_drew ?_ | with_reducible refine below_setCell ?_ (by first | (dsimp only; omega) | (simp; done) | (simp; omega)) _)))) hne hl).mono ?_); intro e w1 h1; obtain ⟨s1, A1, n1, c1, f1, rfl, hc1, hd1, hr1, hb1⟩ := h1.out; (first | obtain ⟨g1, rfl⟩ := to_grow2 hb1 | obtain ⟨g1, rfl⟩ := to_grow hb1); have HR1 := Lib.hid hr1; clear hr1 hb1 h1)
    | (go_at_call 89; (refine (push_any (HR0.out.below (by (repeat (first | exact Below.refl _ _ | assumption | with_reducible refine below_alloc ?_ _ | with_reducible refine below_grow ?_ _ | with_reducible refine below_drewN ?_ _ | with_reducible refine below_drew ?_ | with_reducible refine below_setCell ?_ (by first | (dsimp only; omega) | (simp; done) | (simp; omega)) _)))) hl).mono ?_); intro e w1 h1; obtain ⟨s1, A1, n1, c1, f1, rfl, hc1, hd1, hr1, hb1⟩ := h1.out; (first | obtain ⟨g1, rfl⟩ := to_grow2 hb1 | obtain ⟨g1, rfl⟩ := to_grow hb1); have HR1 := Lib.hid hr1; clear hr1 hb1 h1))
  all_goals first
    | (refine bodyPost_ret (v := .agg #[.string (B s1), .slice A1 n1 c1, .bool f1]) (by simp [results, Tryd.results60, go_sem]) rfl ?_
       refine ⟨_, rfl, ?_, by (repeat (first | exact Below.refl _ _ | assumption | with_reducible refine below_alloc ?_ _ | with_reducible refine below_grow ?_ _ | with_reducible refine below_drewN ?_ _ | with_reducible refine below_drew ?_ | with_reducible refine below_setCell ?_ (by first | (dsimp only; omega) | (simp; done) | (simp; omega)) _))⟩
       exact StR.as (HR1.out.set3 (tyOf_b (by (repeat (first | exact Below.refl _ _ | assumption | with_reducible refine below_alloc ?_ _ | with_reducible refine below_grow ?_ _ | with_reducible refine below_drewN ?_ _ | with_reducible refine below_drew ?_ | with_reducible refine below_setCell ?_ (by first | (dsimp only; omega) | (simp; done) | (simp; omega)) _)))) _ _ _) (by unfold plain; simp [*]))
    | (refine bodyPost_ret (v := .agg #[.string (B (lets x.l)), .slice A x.l.length cp, .bool x.f]) (by simp [results, Tryd.results60, go_sem]) rfl ?_
       refine ⟨_, rfl, ?_, by (repeat (first | exact Below.refl _ _ | assumption | with_reducible refine below_alloc ?_ _ | with_reducible refine below_grow ?_ _ | with_reducible refine below_drewN ?_ _ | with_reducible refine below_drew ?_ | with_reducible refine below_setCell ?_ (by first | (dsimp only; omega) | (simp; done) | (simp; omega)) _))⟩
       exact StR.as (HR0.out.below (by (repeat (first | exact Below.refl _ _ | assumption | with_reducible refine below_alloc ?_ _ | with_reducible refine below_grow ?_ _ | with_reducible refine below_drewN ?_ _ | with_reducible refine below_drew ?_ | with_reducible refine below_setCell ?_ (by first | (dsimp only; omega) | (simp; done) | (simp; omega)) _)))) (by unfold plain; simp [*]))
/-- The frame of a function that holds a state in a box: the box, the result's block. -/
structure Fr (w D : World) (u0 u1 u2 v0 v1 v2 : Value) : Prop where
  bx : BoxN D w.heap.size [u0, u1, u2]
  rs : BoxN D (w.heap.size + 1) [v0, v1, v2]
  tb : tyOf D w.heap.size = some 40
  tr : tyOf D (w.heap.size + 1) = some 40
  be : Below w.heap.size w D
theorem Fr.new (w : World) (u0 u1 u2 v0 v1 v2 : Value) : Fr w ((w.alloc (.cells #[u0, u1, u2] 40)).alloc (.cells #[v0, v1, v2] 40)) u0 u1 u2 v0 v1 v2 := by
  refine ⟨(BoxN.new w [u0, u1, u2] _).below (below_alloc (Below.refl _ _) _), ?_, tyOf_b0 (Below.refl _ _), tyOf_new2 _ _ _ _, by (repeat (first | exact Below.refl _ _ | assumption | with_reducible refine below_alloc ?_ _ | with_reducible refine below_grow ?_ _ | with_reducible refine below_drewN ?_ _ | with_reducible refine below_drew ?_ | with_reducible refine below_setCell ?_ (by first | (dsimp only; omega) | (simp; done) | (simp; omega)) _))⟩
  have := BoxN.new (w.alloc (.cells #[u0, u1, u2] 40)) [v0, v1, v2] 40
  rwa [show (w.alloc (.cells #[u0, u1, u2] 40)).heap.size = w.heap.size + 1 by simp] at this
theorem Fr.below {w D D' : World} {u0 u1 u2 v0 v1 v2 : Value} (h : Fr w D u0 u1 u2 v0 v1 v2) (hb : Below D.heap.size D D') : Fr w D' u0 u1 u2 v0 v1 v2 :=
  ⟨h.bx.below hb, h.rs.below hb, (tyOf_of_block (hb.block _ h.bx.lt)).trans h.tb, (tyOf_of_block (hb.block _ h.rs.lt)).trans h.tr, below_then h.be hb⟩
theorem box_set3 {D : World} {b : Nat} {u0 u1 u2 : Value} (h : BoxN D b [u0, u1, u2]) (x0 x1 x2 : Value) : BoxN (((D.setCell ⟨b, 0, none⟩ x0).setCell ⟨b, 1, none⟩ x1).setCell ⟨b, 2, none⟩ x2) b [x0, x1, x2] := by
  obtain ⟨c0, c1, c2⟩ := h.c3
  refine ⟨by have := h.lt; simpa [World.setCell] using this, fun j u hj => ?_, fun j => by rw [World.frozen?_setCell, World.frozen?_setCell, World.frozen?_setCell]; exact h.f j⟩
  match j, hj with
  | 0, hj =>
    cases hj
    rw [World.cell?_setCell_other _ _ _ _ (by simp), World.cell?_setCell_other _ _ _ _ (by simp)]
    exact World.cell?_setCell_same' _ _ _ (by rw [c0]; rfl)
  | 1, hj =>
    cases hj
    rw [World.cell?_setCell_other _ _ _ _ (by simp)]
    exact World.cell?_setCell_same' _ _ _ (by rw [World.cell?_setCell_other _ _ _ _ (by simp), c1]; rfl)
  | 2, hj =>
    cases hj
    exact World.cell?_setCell_same' _ _ _ (by rw [World.cell?_setCell_other _ _ _ _ (by simp), World.cell?_setCell_other _ _ _ _ (by simp), c2]; rfl)
theorem keeps_set3 (D : World) (b : Nat) (x0 x1 x2 : Value) : Keeps (fun k => k = b) D (((D.setCell ⟨b, 0, none⟩ x0).setCell ⟨b, 1, none⟩ x1).setCell ⟨b, 2, none⟩ x2) :=
  ((Keeps.setCell (F := fun k => k = b) D (a := ⟨b, 0, none⟩) rfl x0).trans (Keeps.setCell (F := fun k => k = b) _ (a := ⟨b, 1, none⟩) rfl x1)).trans (Keeps.setCell (F := fun k => k = b) _ (a := ⟨b, 2, none⟩) rfl x2)
theorem Fr.setBox {w D : World} {u0 u1 u2 v0 v1 v2 : Value} (h : Fr w D u0 u1 u2 v0 v1 v2) (x0 x1 x2 : Value) : Fr w (((D.setCell ⟨w.heap.size, 0, none⟩ x0).setCell ⟨w.heap.size, 1, none⟩ x1).setCell ⟨w.heap.size, 2, none⟩ x2) x0 x1 x2 v0 v1 v2 :=
  ⟨box_set3 h.bx x0 x1 x2, h.rs.keeps (keeps_set3 D _ x0 x1 x2) (by omega), tyOf_bs _ _ _ _ h.tb, tyOf_bs _ _ _ _ h.tr, below_keeps h.be (keeps_set3 D _ x0 x1 x2) (fun k e => by omega)⟩
theorem Fr.setRes {w D : World} {u0 u1 u2 v0 v1 v2 : Value} (h : Fr w D u0 u1 u2 v0 v1 v2) (x0 x1 x2 : Value) : Fr w (((D.setCell ⟨w.heap.size + 1, 0, none⟩ x0).setCell ⟨w.heap.size + 1, 1, none⟩ x1).setCell ⟨w.heap.size + 1, 2, none⟩ x2) u0 u1 u2 x0 x1 x2 :=
  ⟨h.bx.keeps (keeps_set3 D _ x0 x1 x2) (by omega), box_set3 h.rs x0 x1 x2, tyOf_bs _ _ _ _ h.tb, tyOf_bs _ _ _ _ h.tr, below_keeps h.be (keeps_set3 D _ x0 x1 x2) (fun k e => by omega)⟩
theorem Fr.facts {w D : World} {u0 u1 u2 v0 v1 v2 : Value} (h : Fr w D u0 u1 u2 v0 v1 v2) :
    (D.cell? ⟨w.heap.size, 0, none⟩ = some u0 ∧ D.cell? ⟨w.heap.size, 1, none⟩ = some u1 ∧ D.cell? ⟨w.heap.size, 2, none⟩ = some u2) ∧ (D.cell? ⟨w.heap.size + 1, 0, none⟩ = some v0 ∧ D.cell? ⟨w.heap.size + 1, 1, none⟩ = some v1 ∧ D.cell? ⟨w.heap.size + 1, 2, none⟩ = some v2) ∧
    (D.frozen? ⟨w.heap.size, 0, none⟩ = false ∧ D.frozen? ⟨w.heap.size, 1, none⟩ = false ∧ D.frozen? ⟨w.heap.size, 2, none⟩ = false) ∧ (D.frozen? ⟨w.heap.size + 1, 0, none⟩ = false ∧ D.frozen? ⟨w.heap.size + 1, 1, none⟩ = false ∧ D.frozen? ⟨w.heap.size + 1, 2, none⟩ = false) :=
  ⟨h.bx.c3, h.rs.c3, ⟨h.bx.f 0, h.bx.f 1, h.bx.f 2⟩, ⟨h.rs.f 0, h.rs.f 1, h.rs.f 2⟩⟩
theorem StR.setBox {w D : World} {u0 u1 u2 v0 v1 v2 : Value} {v : Value} {x : St} (h : StR D v x) (hf : Fr w D u0 u1 u2 v0 v1 v2) (x0 x1 x2 : Value) : StR (((D.setCell ⟨w.heap.size, 0, none⟩ x0).setCell ⟨w.heap.size, 1, none⟩ x1).setCell ⟨w.heap.size, 2, none⟩ x2) v x := h.set3 hf.tb x0 x1 x2
theorem StR.setRes {w D : World} {u0 u1 u2 v0 v1 v2 : Value} {v : Value} {x : St} (h : StR D v x) (hf : Fr w D u0 u1 u2 v0 v1 v2) (x0 x1 x2 : Value) : StR (((D.setCell ⟨w.heap.size + 1, 0, none⟩ x0).setCell ⟨w.heap.size + 1, 1, none⟩ x1).setCell ⟨w.heap.size + 1, 2, none⟩ x2) v x := h.set3 hf.tr x0 x1 x2
set_option maxHeartbeats 4000000 in
theorem plain_c88 {x : St} {c b : Int} {p : Nat} {v : Value} {w : World} (h : StR w v x) (hl : x.l.length ≤ 1073741824) (hne : x.l ≠ []) : Calls Tryd.prog 60 #[v, .int .u8 88, .int .u8 10, .int .i64 p] w (StP w (plain x 88 10 p)) := by
  obtain ⟨A, cp, rfl, hc0, hd0, hs, ht⟩ := h.form
  have HR0 := Lib.hid h
  clear h hs ht
  go_enter Tryd.func60, Tryd.ntmps60
  go_wp2_with (first
    | (go_at_call 59; (refine (pop_x (HR0.out.below (Fr.new w (.string (B (lets x.l))) (.slice A x.l.length cp) (.bool x.f) (.string (B [])) (.slice none 0 0) (.bool false)).be) hne hl).mono ?_); intro e w1 h1; obtain ⟨s1, A1, n1, c1, f1, rfl, hc1, hd1, hr1, hb1⟩ := h1.out; have HF1 := Lib.hid ((Fr.new w (.string (B (lets x.l))) (.slice A x.l.length cp) (.bool x.f) (.string (B [])) (.slice none 0 0) (.bool false)).below hb1); have HR1 := Lib.hid hr1; clear hr1 hb1 h1; (try clear b0 b1 b2 r0 r1 r2 p0 p1 p2 q0 q1 q2); obtain ⟨⟨b0, b1, b2⟩, ⟨r0, r1, r2⟩, ⟨p0, p1, p2⟩, ⟨q0, q1, q2⟩⟩ := HF1.out.facts))
  refine bodyPost_ret (v := .agg #[.string (B s1), .slice A1 n1 c1, .bool f1]) (by simp [results, Tryd.results60, go_sem, b0, b1, b2, r0, r1, r2]) rfl ?_
  exact ⟨_, rfl, StR.as ((HR1.out.setBox HF1.out _ _ _).setRes (HF1.out.setBox _ _ _) _ _ _) (by rfl), ((HF1.out.setBox _ _ _).setRes _ _ _).be⟩
set_option maxHeartbeats 4000000 in
theorem plain_c88n {x : St} {c b : Int} {p : Nat} {v : Value} {w : World} (h : StR w v x) (hl : x.l.length ≤ 1073741824) (hne : x.l ≠ []) (hb10 : (b == 10) = false) : Calls Tryd.prog 60 #[v, .int .u8 88, .int .u8 b, .int .i64 p] w (StP w (plain x 88 b p)) := by
  obtain ⟨A, cp, rfl, hc0, hd0, hs, ht⟩ := h.form
  have HR0 := Lib.hid h
  clear h hs ht
  have hb11 : (b != 10) = true := by rw [bne, hb10]; rfl
  go_enter Tryd.func60, Tryd.ntmps60
  go_wp2_with (first
    | (go_at_call 57; (refine (mark_any (HR1.out.setBox HF1.out _ _ _) _).mono ?_); intro e w2 h2; obtain ⟨s2, A2, n2, c2, f2, rfl, hc2, hd2, hr2, hb2⟩ := h2.out; have HF2 := Lib.hid ((HF1.out.setBox _ _ _).below hb2); have HR2 := Lib.hid hr2; clear hr2 hb2 h2; (try clear b0 b1 b2 r0 r1 r2 p0 p1 p2 q0 q1 q2); obtain ⟨⟨b0, b1, b2⟩, ⟨r0, r1, r2⟩, ⟨p0, p1, p2⟩, ⟨q0, q1, q2⟩⟩ := HF2.out.facts)
    | (go_at_call 59; (refine (pop_x (HR0.out.below (Fr.new w (.string (B (lets x.l))) (.slice A x.l.length cp) (.bool x.f) (.string (B [])) (.slice none 0 0) (.bool false)).be) hne hl).mono ?_); intro e w1 h1; obtain ⟨s1, A1, n1, c1, f1, rfl, hc1, hd1, hr1, hb1⟩ := h1.out; have HF1 := Lib.hid ((Fr.new w (.string (B (lets x.l))) (.slice A x.l.length cp) (.bool x.f) (.string (B [])) (.slice none 0 0) (.bool false)).below hb1); have HR1 := Lib.hid hr1; clear hr1 hb1 h1; (try clear b0 b1 b2 r0 r1 r2 p0 p1 p2 q0 q1 q2); obtain ⟨⟨b0, b1, b2⟩, ⟨r0, r1, r2⟩, ⟨p0, p1, p2⟩, ⟨q0, q1, q2⟩⟩ := HF1.out.facts))
  refine bodyPost_ret (v := .agg #[.string (B s2), .slice A2 n2 c2, .bool f2]) (by simp [results, Tryd.results60, go_sem, b0, b1, b2, r0, r1, r2]) rfl ?_
  exact ⟨_, rfl, StR.as ((HR2.out.setBox HF2.out _ _ _).setRes (HF2.out.setBox _ _ _) _ _ _) (by unfold plain; simp [hb10]), ((HF2.out.setBox _ _ _).setRes _ _ _).be⟩
theorem opens_92 (w : World) : Calls Tryd.prog 90 #[.int .u8 92] w fun e w' => e = .returned (.string (B [88])) ∧ w = w' := opens_any 92 w
set_option maxHeartbeats 4000000 in
theorem plain_o92 {x : St} {c b : Int} {p : Nat} {v : Value} {w : World} (h : StR w v x) (hl : x.l.length ≤ 1073741824) (hne : x.l ≠ []) (n84 : (c == 84) = false) (n67 : (c == 67) = false) (n80 : (c == 80) = false) (n88 : (c == 88) = false) (n83 : (c == 83) = false) (n35 : (c == 35) = false) (n66 : (c == 66) = false) : Calls Tryd.prog 60 #[v, .int .u8 c, .int .u8 92, .int .i64 p] w (StP w (plain x c 92 p)) := by
  obtain ⟨A, cp, rfl, hc0, hd0, hs, ht⟩ := h.form
  have HR0 := Lib.hid h
  clear h hs ht
  go_enter Tryd.func60, Tryd.ntmps60
  go_wp2_with (go_at_call 90; refine (opens_92 _).mono ?_; rintro e w' ⟨rfl, rfl⟩)
  (refine wp_region_grow_tail 4 (by kernel_rfl) (by kernel_rfl) ?_; simp only [List.take_succ_cons, List.take_zero, List.drop_succ_cons, List.drop_zero]; (repeat (go_big_quiet_step ((go_at_call 90; exact grow_same (opens_92 _))))); refine wpQuiet_nil ?_; intro _ hw'; obtain ⟨gq, hw''⟩ := hw'; subst hw'')
  go_wp2_with (first | (go_at_call 89; (refine (push_any (HR0.out.below (by (repeat (first | exact Below.refl _ _ | assumption | with_reducible refine below_alloc ?_ _ | with_reducible refine below_grow ?_ _ | with_reducible refine below_drewN ?_ _ | with_reducible refine below_drew ?_ | with_reducible refine below_setCell ?_ (by first | (dsimp only; omega) | (simp; done) | (simp; omega)) _)))) hl).mono ?_); intro e w1 h1; obtain ⟨s1, A1, n1, c1, f1, rfl, hc1, hd1, hr1, hb1⟩ := h1.out; (first | obtain ⟨g1, rfl⟩ := to_grow2 hb1 | obtain ⟨g1, rfl⟩ := to_grow hb1); have HR1 := Lib.hid hr1; clear hr1 hb1 h1))
  refine bodyPost_ret (v := .agg #[.string (B s1), .slice A1 n1 c1, .bool f1]) (by simp [results, Tryd.results60, go_sem]) rfl ?_
  refine ⟨_, rfl, ?_, by (repeat (first | exact Below.refl _ _ | assumption | with_reducible refine below_alloc ?_ _ | with_reducible refine below_grow ?_ _ | with_reducible refine below_drewN ?_ _ | with_reducible refine below_drew ?_ | with_reducible refine below_setCell ?_ (by first | (dsimp only; omega) | (simp; done) | (simp; omega)) _))⟩
  exact StR.as (HR1.out.set3 (tyOf_b (by (repeat (first | exact Below.refl _ _ | assumption | with_reducible refine below_alloc ?_ _ | with_reducible refine below_grow ?_ _ | with_reducible refine below_drewN ?_ _ | with_reducible refine below_drew ?_ | with_reducible refine below_setCell ?_ (by first | (dsimp only; omega) | (simp; done) | (simp; omega)) _)))) _ _ _) (by unfold plain; simp [n84, n67, n80, n88, n83, n35, n66])
set_option maxHeartbeats 4000000 in
theorem plain_o36 {x : St} {c b : Int} {p : Nat} {v : Value} {w : World} (h : StR w v x) (hl : x.l.length ≤ 1073741824) (hne : x.l ≠ []) (n84 : (c == 84) = false) (n67 : (c == 67) = false) (n80 : (c == 80) = false) (n88 : (c == 88) = false) (n83 : (c == 83) = false) (n35 : (c == 35) = false) (n66 : (c == 66) = false) : Calls Tryd.prog 60 #[v, .int .u8 c, .int .u8 36, .int .i64 p] w (StP w (plain x c 36 p)) := by
  obtain ⟨A, cp, rfl, hc0, hd0, hs, ht⟩ := h.form
  have HR0 := Lib.hid h
  clear h hs ht
  go_enter Tryd.func60, Tryd.ntmps60
  go_wp2_with (go_at_call 90; refine (opens_36 _).mono ?_; rintro e w' ⟨rfl, rfl⟩)
  (refine wp_region_grow_tail 4 (by kernel_rfl) (by kernel_rfl) ?_; simp only [List.take_succ_cons, List.take_zero, List.drop_succ_cons, List.drop_zero]; (repeat (go_big_quiet_step ((go_at_call 90; exact grow_same (opens_36 _))))); refine wpQuiet_nil ?_; intro _ hw'; obtain ⟨gq, hw''⟩ := hw'; subst hw'')
  go_wp2_with (first | (go_at_call 89; (refine (push_any (HR0.out.below (by (repeat (first | exact Below.refl _ _ | assumption | with_reducible refine below_alloc ?_ _ | with_reducible refine below_grow ?_ _ | with_reducible refine below_drewN ?_ _ | with_reducible refine below_drew ?_ | with_reducible refine below_setCell ?_ (by first | (dsimp only; omega) | (simp; done) | (simp; omega)) _)))) hl).mono ?_); intro e w1 h1; obtain ⟨s1, A1, n1, c1, f1, rfl, hc1, hd1, hr1, hb1⟩ := h1.out; (first | obtain ⟨g1, rfl⟩ := to_grow2 hb1 | obtain ⟨g1, rfl⟩ := to_grow hb1); have HR1 := Lib.hid hr1; clear hr1 hb1 h1))
  refine bodyPost_ret (v := .agg #[.string (B s1), .slice A1 n1 c1, .bool f1]) (by simp [results, Tryd.results60, go_sem]) rfl ?_
  refine ⟨_, rfl, ?_, by (repeat (first | exact Below.refl _ _ | assumption | with_reducible refine below_alloc ?_ _ | with_reducible refine below_grow ?_ _ | with_reducible refine below_drewN ?_ _ | with_reducible refine below_drew ?_ | with_reducible refine below_setCell ?_ (by first | (dsimp only; omega) | (simp; done) | (simp; omega)) _))⟩
  exact StR.as (HR1.out.set3 (tyOf_b (by (repeat (first | exact Below.refl _ _ | assumption | with_reducible refine below_alloc ?_ _ | with_reducible refine below_grow ?_ _ | with_reducible refine below_drewN ?_ _ | with_reducible refine below_drew ?_ | with_reducible refine below_setCell ?_ (by first | (dsimp only; omega) | (simp; done) | (simp; omega)) _)))) _ _ _) (by unfold plain; simp [n84, n67, n80, n88, n83, n35, n66])
set_option maxHeartbeats 4000000 in
theorem plain_o96 {x : St} {c b : Int} {p : Nat} {v : Value} {w : World} (h : StR w v x) (hl : x.l.length ≤ 1073741824) (hne : x.l ≠ []) (n84 : (c == 84) = false) (n67 : (c == 67) = false) (n80 : (c == 80) = false) (n88 : (c == 88) = false) (n83 : (c == 83) = false) (n35 : (c == 35) = false) (n66 : (c == 66) = false) : Calls Tryd.prog 60 #[v, .int .u8 c, .int .u8 96, .int .i64 p] w (StP w (plain x c 96 p)) := by
  obtain ⟨A, cp, rfl, hc0, hd0, hs, ht⟩ := h.form
  have HR0 := Lib.hid h
  clear h hs ht
  go_enter Tryd.func60, Tryd.ntmps60
  go_wp2_with (go_at_call 90; refine (opens_96 _).mono ?_; rintro e w' ⟨rfl, rfl⟩)
  (refine wp_region_grow_tail 4 (by kernel_rfl) (by kernel_rfl) ?_; simp only [List.take_succ_cons, List.take_zero, List.drop_succ_cons, List.drop_zero]; (repeat (go_big_quiet_step ((go_at_call 90; exact grow_same (opens_96 _))))); refine wpQuiet_nil ?_; intro _ hw'; obtain ⟨gq, hw''⟩ := hw'; subst hw'')
  go_wp2_with (first | (go_at_call 89; (refine (push_any (HR0.out.below (by (repeat (first | exact Below.refl _ _ | assumption | with_reducible refine below_alloc ?_ _ | with_reducible refine below_grow ?_ _ | with_reducible refine below_drewN ?_ _ | with_reducible refine below_drew ?_ | with_reducible refine below_setCell ?_ (by first | (dsimp only; omega) | (simp; done) | (simp; omega)) _)))) hl).mono ?_); intro e w1 h1; obtain ⟨s1, A1, n1, c1, f1, rfl, hc1, hd1, hr1, hb1⟩ := h1.out; (first | obtain ⟨g1, rfl⟩ := to_grow2 hb1 | obtain ⟨g1, rfl⟩ := to_grow hb1); have HR1 := Lib.hid hr1; clear hr1 hb1 h1))
  refine bodyPost_ret (v := .agg #[.string (B s1), .slice A1 n1 c1, .bool f1]) (by simp [results, Tryd.results60, go_sem]) rfl ?_
  refine ⟨_, rfl, ?_, by (repeat (first | exact Below.refl _ _ | assumption | with_reducible refine below_alloc ?_ _ | with_reducible refine below_grow ?_ _ | with_reducible refine below_drewN ?_ _ | with_reducible refine below_drew ?_ | with_reducible refine below_setCell ?_ (by first | (dsimp only; omega) | (simp; done) | (simp; omega)) _))⟩
  exact StR.as (HR1.out.set3 (tyOf_b (by (repeat (first | exact Below.refl _ _ | assumption | with_reducible refine below_alloc ?_ _ | with_reducible refine below_grow ?_ _ | with_reducible refine below_drewN ?_ _ | with_reducible refine below_drew ?_ | with_reducible refine below_setCell ?_ (by first | (dsimp only; omega) | (simp; done) | (simp; omega)) _)))) _ _ _) (by unfold plain; simp [n84, n67, n80, n88, n83, n35, n66])
theorem opens_no {b : Int} (d92 : (b == 92) = false) (d36 : (b == 36) = false) (d96 : (b == 96) = false) (w : World) : Calls Tryd.prog 90 #[.int .u8 b] w fun e w' => e = .returned (.string (B [])) ∧ w = w' := by
  have h := opens_any b w
  rw [d92, d36, d96] at h
  exact h
set_option maxHeartbeats 4000000 in
theorem plain_r65 {x : St} {c b : Int} {p : Nat} {v : Value} {w : World} (h : StR w v x) (hl : x.l.length ≤ 1073741824) (hne : x.l ≠ []) (d92 : (b == 92) = false) (d36 : (b == 36) = false) (d96 : (b == 96) = false) : Calls Tryd.prog 60 #[v, .int .u8 65, .int .u8 b, .int .i64 p] w (StP w (plain x 65 b p)) := by
  obtain ⟨A, cp, rfl, hc0, hd0, hs, ht⟩ := h.form
  have HR0 := Lib.hid h
  clear h hs ht
  have HO := Lib.hid (opens_no d92 d36 d96)
  go_enter Tryd.func60, Tryd.ntmps60
  go_wp2_with (first
    | (go_at_call 90; refine (HO.out _).mono ?_; rintro e w' ⟨rfl, rfl⟩)
    | (go_at_call 59; (refine (pop_x (HR0.out.below (by (repeat (first | exact Below.refl _ _ | assumption | with_reducible refine below_alloc ?_ _ | with_reducible refine below_grow ?_ _ | with_reducible refine below_drewN ?_ _ | with_reducible refine below_drew ?_ | with_reducible refine below_setCell ?_ (by first | (dsimp only; omega) | (simp; done) | (simp; omega)) _)))) hne hl).mono ?_); intro e w1 h1; obtain ⟨s1, A1, n1, c1, f1, rfl, hc1, hd1, hr1, hb1⟩ := h1.out; (first | obtain ⟨g1, rfl⟩ := to_grow2 hb1 | obtain ⟨g1, rfl⟩ := to_grow hb1); have HR1 := Lib.hid hr1; clear hr1 hb1 h1)
    | (go_at_call 89; (refine (push_any (HR0.out.below (by (repeat (first | exact Below.refl _ _ | assumption | with_reducible refine below_alloc ?_ _ | with_reducible refine below_grow ?_ _ | with_reducible refine below_drewN ?_ _ | with_reducible refine below_drew ?_ | with_reducible refine below_setCell ?_ (by first | (dsimp only; omega) | (simp; done) | (simp; omega)) _)))) hl).mono ?_); intro e w1 h1; obtain ⟨s1, A1, n1, c1, f1, rfl, hc1, hd1, hr1, hb1⟩ := h1.out; (first | obtain ⟨g1, rfl⟩ := to_grow2 hb1 | obtain ⟨g1, rfl⟩ := to_grow hb1); have HR1 := Lib.hid hr1; clear hr1 hb1 h1)
    | (go_at_call 58; (refine (turn_x (HR0.out.below (by (repeat (first | exact Below.refl _ _ | assumption | with_reducible refine below_alloc ?_ _ | with_reducible refine below_grow ?_ _ | with_reducible refine below_drewN ?_ _ | with_reducible refine below_drew ?_ | with_reducible refine below_setCell ?_ (by first | (dsimp only; omega) | (simp; done) | (simp; omega)) _)))) hne hl).mono ?_); intro e w1 h1; obtain ⟨s1, A1, n1, c1, f1, rfl, hc1, hd1, hr1, hb1⟩ := h1.out; (first | obtain ⟨g1, rfl⟩ := to_grow2 hb1 | obtain ⟨g1, rfl⟩ := to_grow hb1); have HR1 := Lib.hid hr1; clear hr1 hb1 h1))
  all_goals first
    | (refine bodyPost_ret (v := .agg #[.string (B s1), .slice A1 n1 c1, .bool f1]) (by simp [results, Tryd.results60, go_sem]) rfl ?_
       refine ⟨_, rfl, ?_, by (repeat (first | exact Below.refl _ _ | assumption | with_reducible refine below_alloc ?_ _ | with_reducible refine below_grow ?_ _ | with_reducible refine below_drewN ?_ _ | with_reducible refine below_drew ?_ | with_reducible refine below_setCell ?_ (by first | (dsimp only; omega) | (simp; done) | (simp; omega)) _))⟩
       exact StR.as (HR1.out.set3 (tyOf_b (by (repeat (first | exact Below.refl _ _ | assumption | with_reducible refine below_alloc ?_ _ | with_reducible refine below_grow ?_ _ | with_reducible refine below_drewN ?_ _ | with_reducible refine below_drew ?_ | with_reducible refine below_setCell ?_ (by first | (dsimp only; omega) | (simp; done) | (simp; omega)) _)))) _ _ _) (by unfold plain; simp [*]))
    | (refine bodyPost_ret (v := .agg #[.string (B (lets x.l)), .slice A x.l.length cp, .bool x.f]) (by simp [results, Tryd.results60, go_sem]) rfl ?_
       refine ⟨_, rfl, ?_, by (repeat (first | exact Below.refl _ _ | assumption | with_reducible refine below_alloc ?_ _ | with_reducible refine below_grow ?_ _ | with_reducible refine below_drewN ?_ _ | with_reducible refine below_drew ?_ | with_reducible refine below_setCell ?_ (by first | (dsimp only; omega) | (simp; done) | (simp; omega)) _))⟩
       exact StR.as (HR0.out.below (by (repeat (first | exact Below.refl _ _ | assumption | with_reducible refine below_alloc ?_ _ | with_reducible refine below_grow ?_ _ | with_reducible refine below_drewN ?_ _ | with_reducible refine below_drew ?_ | with_reducible refine below_setCell ?_ (by first | (dsimp only; omega) | (simp; done) | (simp; omega)) _)))) (by unfold plain; simp [*]))
set_option maxHeartbeats 4000000 in
theorem plain_r82 {x : St} {c b : Int} {p : Nat} {v : Value} {w : World} (h : StR w v x) (hl : x.l.length ≤ 1073741824) (hne : x.l ≠ []) (d92 : (b == 92) = false) (d36 : (b == 36) = false) (d96 : (b == 96) = false) : Calls Tryd.prog 60 #[v, .int .u8 82, .int .u8 b, .int .i64 p] w (StP w (plain x 82 b p)) := by
  obtain ⟨A, cp, rfl, hc0, hd0, hs, ht⟩ := h.form
  have HR0 := Lib.hid h
  clear h hs ht
  have HO := Lib.hid (opens_no d92 d36 d96)
  go_enter Tryd.func60, Tryd.ntmps60
  go_wp2_with (first
    | (go_at_call 90; refine (HO.out _).mono ?_; rintro e w' ⟨rfl, rfl⟩)
    | (go_at_call 59; (refine (pop_x (HR0.out.below (by (repeat (first | exact Below.refl _ _ | assumption | with_reducible refine below_alloc ?_ _ | with_reducible refine below_grow ?_ _ | with_reducible refine below_drewN ?_ _ | with_reducible refine below_drew ?_ | with_reducible refine below_setCell ?_ (by first | (dsimp only; omega) | (simp; done) | (simp; omega)) _)))) hne hl).mono ?_); intro e w1 h1; obtain ⟨s1, A1, n1, c1, f1, rfl, hc1, hd1, hr1, hb1⟩ := h1.out; (first | obtain ⟨g1, rfl⟩ := to_grow2 hb1 | obtain ⟨g1, rfl⟩ := to_grow hb1); have HR1 := Lib.hid hr1; clear hr1 hb1 h1)
    | (go_at_call 89; (refine (push_any (HR0.out.below (by (repeat (first | exact Below.refl _ _ | assumption | with_reducible refine below_alloc ?_ _ | with_reducible refine below_grow ?_ _ | with_reducible refine below_drewN ?_ _ | with_reducible refine below_drew ?_ | with_reducible refine below_setCell ?_ (by first | (dsimp only; omega) | (simp; done) | (simp; omega)) _)))) hl).mono ?_); intro e w1 h1; obtain ⟨s1, A1, n1, c1, f1, rfl, hc1, hd1, hr1, hb1⟩ := h1.out; (first | obtain ⟨g1, rfl⟩ := to_grow2 hb1 | obtain ⟨g1, rfl⟩ := to_grow hb1); have HR1 := Lib.hid hr1; clear hr1 hb1 h1)
    | (go_at_call 58; (refine (turn_x (HR0.out.below (by (repeat (first | exact Below.refl _ _ | assumption | with_reducible refine below_alloc ?_ _ | with_reducible refine below_grow ?_ _ | with_reducible refine below_drewN ?_ _ | with_reducible refine below_drew ?_ | with_reducible refine below_setCell ?_ (by first | (dsimp only; omega) | (simp; done) | (simp; omega)) _)))) hne hl).mono ?_); intro e w1 h1; obtain ⟨s1, A1, n1, c1, f1, rfl, hc1, hd1, hr1, hb1⟩ := h1.out; (first | obtain ⟨g1, rfl⟩ := to_grow2 hb1 | obtain ⟨g1, rfl⟩ := to_grow hb1); have HR1 := Lib.hid hr1; clear hr1 hb1 h1))
  all_goals first
    | (refine bodyPost_ret (v := .agg #[.string (B s1), .slice A1 n1 c1, .bool f1]) (by simp [results, Tryd.results60, go_sem]) rfl ?_
       refine ⟨_, rfl, ?_, by (repeat (first | exact Below.refl _ _ | assumption | with_reducible refine below_alloc ?_ _ | with_reducible refine below_grow ?_ _ | with_reducible refine below_drewN ?_ _ | with_reducible refine below_drew ?_ | with_reducible refine below_setCell ?_ (by first | (dsimp only; omega) | (simp; done) | (simp; omega)) _))⟩
       exact StR.as (HR1.out.set3 (tyOf_b (by (repeat (first | exact Below.refl _ _ | assumption | with_reducible refine below_alloc ?_ _ | with_reducible refine below_grow ?_ _ | with_reducible refine below_drewN ?_ _ | with_reducible refine below_drew ?_ | with_reducible refine below_setCell ?_ (by first | (dsimp only; omega) | (simp; done) | (simp; omega)) _)))) _ _ _) (by unfold plain; simp [*]))
    | (refine bodyPost_ret (v := .agg #[.string (B (lets x.l)), .slice A x.l.length cp, .bool x.f]) (by simp [results, Tryd.results60, go_sem]) rfl ?_
       refine ⟨_, rfl, ?_, by (repeat (first | exact Below.refl _ _ | assumption | with_reducible refine below_alloc ?_ _ | with_reducible refine below_grow ?_ _ | with_reducible refine below_drewN ?_ _ | with_reducible refine below_drew ?_ | with_reducible refine below_setCell ?_ (by first | (dsimp only; omega) | (simp; done) | (simp; omega)) _))⟩
       exact StR.as (HR0.out.below (by (repeat (first | exact Below.refl _ _ | assumption | with_reducible refine below_alloc ?_ _ | with_reducible refine below_grow ?_ _ | with_reducible refine below_drewN ?_ _ | with_reducible refine below_drew ?_ | with_reducible refine below_setCell ?_ (by first | (dsimp only; omega) | (simp; done) | (simp; omega)) _)))) (by unfold plain; simp [*]))
set_option maxHeartbeats 4000000 in
theorem plain_r68 {x : St} {c b : Int} {p : Nat} {v : Value} {w : World} (h : StR w v x) (hl : x.l.length ≤ 1073741824) (hne : x.l ≠ []) (d92 : (b == 92) = false) (d36 : (b == 36) = false) (d96 : (b == 96) = false) : Calls Tryd.prog 60 #[v, .int .u8 68, .int .u8 b, .int .i64 p] w (StP w (plain x 68 b p)) := by
  obtain ⟨A, cp, rfl, hc0, hd0, hs, ht⟩ := h.form
  have HR0 := Lib.hid h
  clear h hs ht
  have HO := Lib.hid (opens_no d92 d36 d96)
  go_enter Tryd.func60, Tryd.ntmps60
  go_wp2_with (first
    | (go_at_call 90; refine (HO.out _).mono ?_; rintro e w' ⟨rfl, rfl⟩)
    | (go_at_call 59; (refine (pop_x (HR0.out.below (by (repeat (first | exact Below.refl _ _ | assumption | with_reducible refine below_alloc ?_ _ | with_reducible refine below_grow ?_ _ | with_reducible refine below_drewN ?_ _ | with_reducible refine below_drew ?_ | with_reducible refine below_setCell ?_ (by first | (dsimp only; omega) | (simp; done) | (simp; omega)) _)))) hne hl).mono ?_); intro e w1 h1; obtain ⟨s1, A1, n1, c1, f1, rfl, hc1, hd1, hr1, hb1⟩ := h1.out; (first | obtain ⟨g1, rfl⟩ := to_grow2 hb1 | obtain ⟨g1, rfl⟩ := to_grow hb1); have HR1 := Lib.hid hr1; clear hr1 hb1 h1)
    | (go_at_call 89; (refine (push_any (HR0.out.below (by (repeat (first | exact Below.refl _ _ | assumption | with_reducible refine below_alloc ?_ _ | with_reducible refine below_grow ?_ _ | with_reducible refine below_drewN ?_ _ | with_reducible refine below_drew ?_ | with_reducible refine below_setCell ?_ (by first | (dsimp only; omega) | (simp; done) | (simp; omega)) _)))) hl).mono ?_); intro e w1 h1; obtain ⟨s1, A1, n1, c1, f1, rfl, hc1, hd1, hr1, hb1⟩ := h1.out; (first | obtain ⟨g1, rfl⟩ := to_grow2 hb1 | obtain ⟨g1, rfl⟩ := to_grow hb1); have HR1 := Lib.hid hr1; clear hr1 hb1 h1)
    | (go_at_call 58; (refine (turn_x (HR0.out.below (by (repeat (first | exact Below.refl _ _ | assumption | with_reducible refine below_alloc ?_ _ | with_reducible refine below_grow ?_ _ | with_reducible refine below_drewN ?_ _ | with_reducible refine below_drew ?_ | with_reducible refine below_setCell ?_ (by first | (dsimp only; omega) | (simp; done) | (simp; omega)) _)))) hne hl).mono ?_); intro e w1 h1; obtain ⟨s1, A1, n1, c1, f1, rfl, hc1, hd1, hr1, hb1⟩ := h1.out; (first | obtain ⟨g1, rfl⟩ := to_grow2 hb1 | obtain ⟨g1, rfl⟩ := to_grow hb1); have HR1 := Lib.hid hr1; clear hr1 hb1 h1))
  all_goals first
    | (refine bodyPost_ret (v := .agg #[.string (B s1), .slice A1 n1 c1, .bool f1]) (by simp [results, Tryd.results60, go_sem]) rfl ?_
       refine ⟨_, rfl, ?_, by (repeat (first | exact Below.refl _ _ | assumption | with_reducible refine below_alloc ?_ _ | with_reducible refine below_grow ?_ _ | with_reducible refine below_drewN ?_ _ | with_reducible refine below_drew ?_ | with_reducible refine below_setCell ?_ (by first | (dsimp only; omega) | (simp; done) | (simp; omega)) _))⟩
       exact StR.as (HR1.out.set3 (tyOf_b (by (repeat (first | exact Below.refl _ _ | assumption | with_reducible refine below_alloc ?_ _ | with_reducible refine below_grow ?_ _ | with_reducible refine below_drewN ?_ _ | with_reducible refine below_drew ?_ | with_reducible refine below_setCell ?_ (by first | (dsimp only; omega) | (simp; done) | (simp; omega)) _)))) _ _ _) (by unfold plain; simp [*]))
    | (refine bodyPost_ret (v := .agg #[.string (B (lets x.l)), .slice A x.l.length cp, .bool x.f]) (by simp [results, Tryd.results60, go_sem]) rfl ?_
       refine ⟨_, rfl, ?_, by (repeat (first | exact Below.refl _ _ | assumption | with_reducible refine below_alloc ?_ _ | with_reducible refine below_grow ?_ _ | with_reducible refine below_drewN ?_ _ | with_reducible refine below_drew ?_ | with_reducible refine below_setCell ?_ (by first | (dsimp only; omega) | (simp; done) | (simp; omega)) _))⟩
       exact StR.as (HR0.out.below (by (repeat (first | exact Below.refl _ _ | assumption | with_reducible refine below_alloc ?_ _ | with_reducible refine below_grow ?_ _ | with_reducible refine below_drewN ?_ _ | with_reducible refine below_drew ?_ | with_reducible refine below_setCell ?_ (by first | (dsimp only; omega) | (simp; done) | (simp; omega)) _)))) (by unfold plain; simp [*]))
set_option maxHeartbeats 4000000 in
theorem plain_rest {x : St} {c b : Int} {p : Nat} {v : Value} {w : World} (h : StR w v x) (hl : x.l.length ≤ 1073741824) (hne : x.l ≠ []) (n84 : (c == 84) = false) (n67 : (c == 67) = false) (n80 : (c == 80) = false) (n88 : (c == 88) = false) (n83 : (c == 83) = false) (n35 : (c == 35) = false) (n66 : (c == 66) = false) (n65 : (c == 65) = false) (n82 : (c == 82) = false) (n68 : (c == 68) = false) (d92 : (b == 92) = false) (d36 : (b == 36) = false) (d96 : (b == 96) = false) : Calls Tryd.prog 60 #[v, .int .u8 c, .int .u8 b, .int .i64 p] w (StP w (plain x c b p)) := by
  obtain ⟨A, cp, rfl, hc0, hd0, hs, ht⟩ := h.form
  have HR0 := Lib.hid h
  clear h hs ht
  have HO := Lib.hid (opens_no d92 d36 d96)
  go_enter Tryd.func60, Tryd.ntmps60
  go_wp2_with (first
    | (go_at_call 90; refine (HO.out _).mono ?_; rintro e w' ⟨rfl, rfl⟩)
    | (go_at_call 59; (refine (pop_x (HR0.out.below (by (repeat (first | exact Below.refl _ _ | assumption | with_reducible refine below_alloc ?_ _ | with_reducible refine below_grow ?_ _ | with_reducible refine below_drewN ?_ _ | with_reducible refine below_drew ?_ | with_reducible refine below_setCell ?_ (by first | (dsimp only; omega) | (simp; done) | (simp; omega)) _)))) hne hl).mono ?_); intro e w1 h1; obtain ⟨s1, A1, n1, c1, f1, rfl, hc1, hd1, hr1, hb1⟩ := h1.out; (first | obtain ⟨g1, rfl⟩ := to_grow2 hb1 | obtain ⟨g1, rfl⟩ := to_grow hb1); have HR1 := Lib.hid hr1; clear hr1 hb1 h1)
    | (go_at_call 89; (refine (push_any (HR0.out.below (by (repeat (first | exact Below.refl _ _ | assumption | with_reducible refine below_alloc ?_ _ | with_reducible refine below_grow ?_ _ | with_reducible refine below_drewN ?_ _ | with_reducible refine below_drew ?_ | with_reducible refine below_setCell ?_ (by first | (dsimp only; omega) | (simp; done) | (simp; omega)) _)))) hl).mono ?_); intro e w1 h1; obtain ⟨s1, A1, n1, c1, f1, rfl, hc1, hd1, hr1, hb1⟩ := h1.out; (first | obtain ⟨g1, rfl⟩ := to_grow2 hb1 | obtain ⟨g1, rfl⟩ := to_grow hb1); have HR1 := Lib.hid hr1; clear hr1 hb1 h1)
    | (go_at_call 58; (refine (turn_x (HR0.out.below (by (repeat (first | exact Below.refl _ _ | assumption | with_reducible refine below_alloc ?_ _ | with_reducible refine below_grow ?_ _ | with_reducible refine below_drewN ?_ _ | with_reducible refine below_drew ?_ | with_reducible refine below_setCell ?_ (by first | (dsimp only; omega) | (simp; done) | (simp; omega)) _)))) hne hl).mono ?_); intro e w1 h1; obtain ⟨s1, A1, n1, c1, f1, rfl, hc1, hd1, hr1, hb1⟩ := h1.out; (first | obtain ⟨g1, rfl⟩ := to_grow2 hb1 | obtain ⟨g1, rfl⟩ := to_grow hb1); have HR1 := Lib.hid hr1; clear hr1 hb1 h1))
  all_goals first
    | (refine bodyPost_ret (v := .agg #[.string (B s1), .slice A1 n1 c1, .bool f1]) (by simp [results, Tryd.results60, go_sem]) rfl ?_
       refine ⟨_, rfl, ?_, by (repeat (first | exact Below.refl _ _ | assumption | with_reducible refine below_alloc ?_ _ | with_reducible refine below_grow ?_ _ | with_reducible refine below_drewN ?_ _ | with_reducible refine below_drew ?_ | with_reducible refine below_setCell ?_ (by first | (dsimp only; omega) | (simp; done) | (simp; omega)) _))⟩
       exact StR.as (HR1.out.set3 (tyOf_b (by (repeat (first | exact Below.refl _ _ | assumption | with_reducible refine below_alloc ?_ _ | with_reducible refine below_grow ?_ _ | with_reducible refine below_drewN ?_ _ | with_reducible refine below_drew ?_ | with_reducible refine below_setCell ?_ (by first | (dsimp only; omega) | (simp; done) | (simp; omega)) _)))) _ _ _) (by unfold plain; simp [*]))
    | (refine bodyPost_ret (v := .agg #[.string (B (lets x.l)), .slice A x.l.length cp, .bool x.f]) (by simp [results, Tryd.results60, go_sem]) rfl ?_
       refine ⟨_, rfl, ?_, by (repeat (first | exact Below.refl _ _ | assumption | with_reducible refine below_alloc ?_ _ | with_reducible refine below_grow ?_ _ | with_reducible refine below_drewN ?_ _ | with_reducible refine below_drew ?_ | with_reducible refine below_setCell ?_ (by first | (dsimp only; omega) | (simp; done) | (simp; omega)) _))⟩
       exact StR.as (HR0.out.below (by (repeat (first | exact Below.refl _ _ | assumption | with_reducible refine below_alloc ?_ _ | with_reducible refine below_grow ?_ _ | with_reducible refine below_drewN ?_ _ | with_reducible refine below_drew ?_ | with_reducible refine below_setCell ?_ (by first | (dsimp only; omega) | (simp; done) | (simp; omega)) _)))) (by unfold plain; simp [*]))
theorem plain_any {x : St} {c b : Int} {p : Nat} {v : Value} {w : World} (h : StR w v x) (hl : x.l.length ≤ 1073741824) (hne : x.l ≠ []) (hb : ∃ u : UInt8, b = u.toNat) : Calls Tryd.prog 60 #[v, .int .u8 c, .int .u8 b, .int .i64 p] w (StP w (plain x c b p)) := by
  by_cases h84 : c = 84
  · subst h84; exact plain_c84 (c := 0) h hl hne hb
  by_cases h67 : c = 67
  · subst h67; exact plain_c67 (c := 0) h hl hne hb
  by_cases h80 : c = 80
  · subst h80; exact plain_c80 (c := 0) h hl hne hb
  by_cases h88 : c = 88
  · subst h88
    by_cases h10 : b = 10
    · subst h10; exact plain_c88 (c := 0) (b := 0) h hl hne
    · exact plain_c88n (c := 0) h hl hne (by simpa using h10)
  by_cases h83 : c = 83
  · subst h83; exact plain_c83 (c := 0) h hl hne
  by_cases h35 : c = 35
  · subst h35; exact plain_c35 (c := 0) h hl hne
  by_cases h66 : c = 66
  · subst h66; exact plain_c66 (c := 0) h hl hne
  have n84 : (c == 84) = false := by simpa using h84
  have n67 : (c == 67) = false := by simpa using h67
  have n80 : (c == 80) = false := by simpa using h80
  have n88 : (c == 88) = false := by simpa using h88
  have n83 : (c == 83) = false := by simpa using h83
  have n35 : (c == 35) = false := by simpa using h35
  have n66 : (c == 66) = false := by simpa using h66
  by_cases h92 : b = 92
  · subst h92; exact plain_o92 (b := 0) h hl hne n84 n67 n80 n88 n83 n35 n66
  by_cases h36 : b = 36
  · subst h36; exact plain_o36 (b := 0) h hl hne n84 n67 n80 n88 n83 n35 n66
  by_cases h96 : b = 96
  · subst h96; exact plain_o96 (b := 0) h hl hne n84 n67 n80 n88 n83 n35 n66
  have d92 : (b == 92) = false := by simpa using h92
  have d36 : (b == 36) = false := by simpa using h36
  have d96 : (b == 96) = false := by simpa using h96
  by_cases h65 : c = 65
  · subst h65; exact plain_r65 (c := 0) h hl hne d92 d36 d96
  by_cases h82 : c = 82
  · subst h82; exact plain_r82 (c := 0) h hl hne d92 d36 d96
  by_cases h68 : c = 68
  · subst h68; exact plain_r68 (c := 0) h hl hne d92 d36 d96
  exact plain_rest h hl hne n84 n67 n80 n88 n83 n35 n66 (by simpa using h65) (by simpa using h82) (by simpa using h68) d92 d36 d96
end Go.Proofs.YtadlaaddpobhbaaDoor.Md
