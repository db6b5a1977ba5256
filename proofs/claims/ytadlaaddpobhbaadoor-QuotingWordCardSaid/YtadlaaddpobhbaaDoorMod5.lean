/-
  The walks of layer 6's reference (modes), on: the stack behind a text. Conditions: texts of at most 2^29 bytes.
-/
import Derived.Test.YtadlaaddpobhbaaDoorMod4
namespace Go.Proofs.YtadlaaddpobhbaaDoor.Md
open Go.ChangeShapes Go.WideShapes Go.Deep Go.RowKit Cls
set_option maxRecDepth 100000
theorem program_len (x : St) (c b : Int) (p : Nat) : (program x c b p).l.length ≤ x.l.length + 1 := by
  unfold program
  repeat' split
  all_goals simp [St.push, St.mark, St.pop]
  all_goals omega
theorem turnL_len (c : UInt8) (l : List (UInt8 × Nat)) : (turnL c l).length = l.length := by cases l <;> rfl
theorem ite_p {α : Type} {P : α → Prop} {c : Prop} [Decidable c] {a b : α} (ha : P a) (hb : P b) : P (if c then a else b) := by
  by_cases h : c
  · rw [if_pos h]; exact ha
  · rw [if_neg h]; exact hb
theorem plain_len (x : St) (c b : Int) (p : Nat) : (plain x c b p).l.length ≤ x.l.length + 1 := by
  have h0 := program_len x c b p
  have h1 : ∀ d : UInt8, (x.push d p).l.length ≤ x.l.length + 1 := fun d => by simp [St.push]
  have h2 : x.pop.l.length ≤ x.l.length + 1 := by simp [St.pop]; omega
  have h3 : ∀ f, (x.pop.mark f).l.length ≤ x.l.length + 1 := fun f => h2
  have h4 : ∀ d : UInt8, (x.turn d).l.length ≤ x.l.length + 1 := fun d => by simp [St.turn, turnL_len]
  have h5 : x.l.length ≤ x.l.length + 1 := by omega
  show (fun y : St => y.l.length ≤ x.l.length + 1) (plain x c b p)
  unfold plain
  repeat' (first | exact h0 | exact h5 | exact h2 | exact h3 _ | exact h4 _ | exact h1 _ | refine ite_p (P := fun y : St => y.l.length ≤ x.l.length + 1) ?_ ?_)
theorem step_len (x : St) (b : Int) (p : Nat) : (step x b p).l.length ≤ x.l.length + 1 := by
  have h1 := plain_len x.pop x.under.toNat b p
  have h2 := plain_len (x.turn 67) 67 b p
  have h3 := plain_len (x.turn 65) 65 b p
  have h4 := plain_len x x.top.toNat b p
  have h5 : x.pop.l.length ≤ x.l.length := by simp [St.pop]
  have h6 : (x.turn 67).l.length = x.l.length := turnL_len _ _
  have h7 : (x.turn 65).l.length = x.l.length := turnL_len _ _
  have g1 : ∀ (d : UInt8) f, ((x.turn d).mark f).l.length ≤ x.l.length + 1 := fun d f => by simp [St.mark, St.turn, turnL_len]
  have g2 : ∀ d : UInt8, (x.turn d).l.length ≤ x.l.length + 1 := fun d => by simp [St.turn, turnL_len]
  show (fun y : St => y.l.length ≤ x.l.length + 1) (step x b p)
  unfold step
  repeat' (first | exact g1 _ _ | exact g2 _ | (show _ ≤ _; omega) | refine ite_p (P := fun y : St => y.l.length ≤ x.l.length + 1) ?_ ?_)
theorem runK_len (x : St) (p : Nat) (s : List UInt8) : (runK x p s).l.length ≤ x.l.length + s.length := by
  induction s generalizing x p with
  | nil => simp [runK]
  | cons b s ih =>
    have h1 := ih (step x b.toNat p) (p + 1)
    have h2 := step_len x b.toNat p
    simp only [runK, List.length_cons]
    omega
theorem run_len (s : List UInt8) : (run s).l.length ≤ s.length + 1 := by
  have := runK_len first 0 s
  unfold run
  simp [first] at this ⊢
  omega
theorem sl_one {W : World} {b : Nat} {y : Int} (h : BoxN W b [.int .i64 y]) : Sl W numC 1 (.slice (some ⟨b, 0, none⟩) 1 1) [y] := by
  refine ⟨_, _, rfl, by simp, by simp, (fun h => by cases h), fun _ => ⟨b, 0, rfl, h.lt, fun k x hk j u hj => ?_⟩⟩
  match k, hk with
  | 0, hk =>
    cases hk
    match j, hj with
    | 0, hj => cases hj; exact h.c 0 _ rfl
theorem refFirst_any (w : World) : Calls Tryd.prog 32 #[] w (StP w first) := by
  go_enter Tryd.func32, Tryd.ntmps32
  go_wp2
  refine bodyPost_ret (v := .agg #[.string (B [84]), .slice (some ⟨w.heap.size + 1, 0, none⟩) 1 1, .bool true]) (by simp [results, Tryd.results32, go_sem]) rfl ?_
  refine ⟨_, rfl, ⟨_, rfl, ?_, ?_⟩, by (repeat (first | exact Below.refl _ _ | assumption | with_reducible refine below_alloc ?_ _ | with_reducible refine below_grow ?_ _ | with_reducible refine below_drewN ?_ _ | with_reducible refine below_drew ?_ | with_reducible refine below_setCell ?_ (by first | (dsimp only; omega) | (simp; done) | (simp; omega)) _))⟩
  · have h := BoxN.new (w.alloc (.cells #[.string (B [84]), .slice (some ⟨w.heap.size + 1, 0, none⟩) 1 1, .bool true] 40)) [.int .i64 0] 3
    rw [show (w.alloc (.cells #[.string (B [84]), .slice (some ⟨w.heap.size + 1, 0, none⟩) 1 1, .bool true] 40)).heap.size = w.heap.size + 1 by simp] at h
    exact sl_one h
  · intro k hk
    cases hk
    exact tyOf_new2 _ _ _ _
/-- What holds at each round of Run's loop, the state in block xb. -/
structure RunI (w : World) (xb : Nat) (x : St) (D : World) : Prop where
  ex : ∃ s A n c f, n ≤ c ∧ c ≤ 9223372036854775807 ∧ BoxN D xb [.string (B s), .slice A n c, .bool f] ∧ StR D (.agg #[.string (B s), .slice A n c, .bool f]) x
  tb : tyOf D xb = some 40
  ge : w.heap.size ≤ xb
  be : Below w.heap.size w D
theorem RunI.below {w D D' : World} {xb : Nat} {x : St} (h : RunI w xb x D) (hb : Below D.heap.size D D') : RunI w xb x D' := by
  obtain ⟨s, A, n, c, f, h1, h2, h3, h4⟩ := h.ex
  exact ⟨⟨s, A, n, c, f, h1, h2, h3.below hb, h4.below hb⟩, (tyOf_of_block (hb.block _ h3.lt)).trans h.tb, h.ge, below_then h.be hb⟩
theorem RunI.set {w D : World} {xb : Nat} {x y : St} (h : RunI w xb x D) {s : List UInt8} {A : Option Addr} {n c : Nat} {f : Bool} (h1 : n ≤ c) (h2 : c ≤ 9223372036854775807) (h3 : StR D (.agg #[.string (B s), .slice A n c, .bool f]) y) :
    RunI w xb y (((D.setCell ⟨xb, 0, none⟩ (.string (B s))).setCell ⟨xb, 1, none⟩ (.slice A n c)).setCell ⟨xb, 2, none⟩ (.bool f)) := by
  obtain ⟨s0, A0, n0, c0, f0, _, _, g3, _⟩ := h.ex
  exact ⟨⟨s, A, n, c, f, h1, h2, box_set3 g3 _ _ _, h3.set3 h.tb _ _ _⟩, tyOf_bs _ _ _ _ h.tb, h.ge, below_keeps h.be (keeps_set3 D _ _ _ _) (fun k e => by have := h.ge; omega)⟩
theorem RunI.start {w w1 : World} {s : List UInt8} {A : Option Addr} {n c : Nat} {f : Bool} {x : St} (h1 : n ≤ c) (h2 : c ≤ 9223372036854775807) (hb : Below w.heap.size w w1) (hr : StR w1 (.agg #[.string (B s), .slice A n c, .bool f]) x) :
    RunI w w1.heap.size x (w1.alloc (.cells #[.string (B s), .slice A n c, .bool f] 40)) :=
  ⟨⟨s, A, n, c, f, h1, h2, BoxN.new w1 [.string (B s), .slice A n c, .bool f] _, hr.below (below_alloc (Below.refl _ _) _)⟩, tyOf_alloc _ _ _, hb.size, below_alloc hb _⟩
/-- The result's block waits. -/
structure ResI (w D : World) : Prop where
  rs : BoxN D w.heap.size [.string (B []), .slice none 0 0, .bool false]
  tr : tyOf D w.heap.size = some 40
theorem ResI.below {w D D' : World} (h : ResI w D) (hb : Below D.heap.size D D') : ResI w D' := ⟨h.rs.below hb, (tyOf_of_block (hb.block _ h.rs.lt)).trans h.tr⟩
theorem ResI.set {w D : World} (h : ResI w D) {xb : Nat} (hx : w.heap.size < xb) (u0 u1 u2 : Value) : ResI w (((D.setCell ⟨xb, 0, none⟩ u0).setCell ⟨xb, 1, none⟩ u1).setCell ⟨xb, 2, none⟩ u2) :=
  ⟨h.rs.keeps (keeps_set3 D _ _ _ _) (by omega), tyOf_bs _ _ _ _ h.tr⟩
set_option maxHeartbeats 2000000 in
theorem refRun_any (s : List UInt8) (w : World) (hs : s.length ≤ 536870912) : Calls Tryd.prog 16 #[.string (B s)] w (StP w (run s)) := by
  have HFI := Lib.hid fun W => refFirst_any W
  go_enter Tryd.func16, Tryd.ntmps16
  go_wp2_with (go_at_call 32; (refine (HFI.out _).mono ?_); intro e w1 h1; obtain ⟨s1, A1, n1, c1, f1, rfl, hc1, hd1, hr1, hb1⟩ := h1.out; have HB1 := Lib.hid hb1; have HR1 := Lib.hid hr1; clear hr1 hb1 h1)
  have hxs := HB1.out.size
  have HX := Lib.hid (show w.heap.size < w1.heap.size by simp at hxs; omega)
  have HI := Lib.hid (RunI.start hc1 hd1 ((below_alloc (Below.refl _ _) _).trans (HB1.out.mono (by simp))) HR1.out)
  have HRS := Lib.hid ((show ResI w (w.alloc (.cells #[.string (B []), .slice none 0 0, .bool false] 40)) from ⟨BoxN.new w [.string (B []), .slice none 0 0, .bool false] _, tyOf_alloc _ _ _⟩).below HB1.out)
  have HRS := Lib.hid (HRS.out.below (below_alloc (Below.refl _ _) (.cells #[.string (B s1), .slice A1 n1 c1, .bool f1] 40)))
  clear hxs HB1 HR1
  generalize w1.heap.size = xb at *
  go_loopw [4] (fun i wr => ∃ k : Nat, k ≤ s.length ∧ i = .int .i64 k ∧ Hid (RunI w xb (run (s.take k)) wr) ∧ Hid (ResI w wr)) (fun i _ => s.length - (intOf i).toNat)
  case atStart => exact ⟨0, by omega, rfl, HI.out, HRS.out⟩
  case round =>
    clear HI HRS
    obtain ⟨k, hk, rfl, HI, HRS⟩ := hrel
    by_cases hlt : k < s.length
    · have h0 : (0 : Int) ≤ (k : Int) := by omega
      have h1 : (k : Int) < (s.length : Int) := by omega
      obtain ⟨s2, A2, n2, c2, f2, hc2, hd2, hbx, hr2⟩ := HI.out.ex
      have hrl := run_len (s.take k)
      rw [List.length_take] at hrl
      have HR2 := Lib.hid hr2
      have HST := Lib.hid fun W (h : Below wr.heap.size wr W) => refStep_any (wf_run (s.take k)) s[k] (p := k) (hr2.below h) (by omega)
      rw [← run_take hlt] at HST
      obtain ⟨b0, b1, b2⟩ := hbx.c3
      haveI : Old wr xb := ⟨hbx.lt⟩
      clear hr2 hbx hrl
      go_wp2
      (refine wp_region_grow_tail 5 (by kernel_rfl) (by kernel_rfl) ?_; simp only [List.take_succ_cons, List.take_zero, List.drop_succ_cons, List.drop_zero]; (repeat (go_big_quiet_step (fail))); refine wpQuiet_nil ?_; intro _ hw'; obtain ⟨gq, hw''⟩ := hw'; subst hw'')
      have HT := Lib.hid (HST.out _ (grow_below wr gq))
      have HI3 := Lib.hid (HI.out.below (grow_below wr gq))
      have HRS3 := Lib.hid (HRS.out.below (grow_below wr gq))
      clear HST
      go_wp2_with (go_at_call 33; (refine HT.out.mono ?_); intro e w4 h4; obtain ⟨s4, A4, n4, c4, f4, rfl, hc4, hd4, hr4, hb4⟩ := h4.out; have HR4 := Lib.hid hr4; have HI4 := Lib.hid (HI3.out.below hb4); have HRS4 := Lib.hid (HRS3.out.below hb4); clear hr4 hb4 h4 b0 b1 b2; obtain ⟨s5, A5, n5, c5, f5, _, _, hbx5, _⟩ := HI4.out.ex; obtain ⟨b0, b1, b2⟩ := hbx5.c3; have p0 := hbx5.f 0; have p1 := hbx5.f 1; have p2 := hbx5.f 2; clear hbx5)
      go_roundw
      case rel => exact ⟨k + 1, by omega, by go_num, HI4.out.set hc4 hd4 HR4.out, HRS4.out.set HX.out _ _ _⟩
      case measure => simp [intOf]; omega
    · have hk' : k = s.length := by omega
      subst hk'
      rw [List.take_length] at HI
      obtain ⟨s2, A2, n2, c2, f2, hc2, hd2, hbx, hr2⟩ := HI.out.ex
      have HR2 := Lib.hid hr2
      obtain ⟨b0, b1, b2⟩ := hbx.c3
      obtain ⟨r0, r1, r2⟩ := HRS.out.rs.c3
      have q0 := HRS.out.rs.f 0
      have q1 := HRS.out.rs.f 1
      have q2 := HRS.out.rs.f 2
      clear hr2 hbx hlt
      go_wp2
      refine bodyPost_ret (v := .agg #[.string (B s2), .slice A2 n2 c2, .bool f2]) (by simp [results, Tryd.results16, go_sem, r0, r1, r2]) rfl ?_
      exact ⟨_, rfl, HR2.out.set3 HRS.out.tr _ _ _, below_keeps HI.out.be (keeps_set3 wr _ _ _ _) (fun k e => by omega)⟩
theorem refShut_any (s : List UInt8) (w : World) (hs : s.length ≤ 536870912) : Calls Tryd.prog 52 #[.string (B s)] w fun e w' => e = .returned (.bool (lets (run s).l == [84] || lets (run s).l == [84, 76])) ∧ Below w.heap.size w w' := by
  have HR := Lib.hid fun W => refRun_any s W hs
  generalize hl : lets (run s).l = ls at *
  have HL := Lib.hid hl
  clear hl
  go_enter Tryd.func52, Tryd.ntmps52
  go_wp2_with (go_at_call 16; (refine (HR.out _).mono ?_); intro e w1 h1; obtain ⟨s1, A1, n1, c1, f1, rfl, hc1, hd1, hr1, hb1⟩ := h1.out; have HB1 := Lib.hid hb1; have hs1 := hr1.letters; rw [HL.out] at hs1; subst hs1; clear hr1 hb1 h1)
  all_goals
    go_ret
    exact ⟨Cls.ret_b (by simp [*]), below_alloc HB1.out _⟩
/-- A word ends ahead of a byte. -/
def stopB (x : St) (b : UInt8) : Bool := endsB b && (lets x.l == [84] || (lets x.l == [84, 76] && (b.toNat : Int) != 40))
def endFrom (x : St) (i : Nat) : List UInt8 → Nat
  | [] => i
  | b :: l => if stopB x b = true then i else endFrom (step x b.toNat i) (i + 1) l
/-- A word's end. -/
def endN (s : List UInt8) (a : Nat) : Nat := endFrom first a (s.drop a)
/-- What is known at each round of End's loop. -/
def EndK (s : List UInt8) (a : Nat) (x : St) (k : Nat) : Prop := WF x ∧ x.l.length ≤ k + 1 ∧ endN s a = endFrom x k (s.drop k)
set_option maxHeartbeats 4000000 in
theorem refEnd_any (s : List UInt8) (a : Nat) (w : World) (hs : s.length ≤ 536870912) (ha : a ≤ s.length) : Calls Tryd.prog 50 #[.string (B s), .int .i64 a] w fun e w' => e = .returned (.int .i64 (endN s a)) ∧ Below w.heap.size w w' := by
  have HFI := Lib.hid fun W => refFirst_any W
  go_enter Tryd.func50, Tryd.ntmps50
  go_wp2_with (go_at_call 32; (refine (HFI.out _).mono ?_); intro e w1 h1; obtain ⟨s1, A1, n1, c1, f1, rfl, hc1, hd1, hr1, hb1⟩ := h1.out; have HB1 := Lib.hid hb1; have HR1 := Lib.hid hr1; clear hr1 hb1 h1)
  have HI := Lib.hid (RunI.start hc1 hd1 HB1.out HR1.out)
  have HK := Lib.hid (show EndK s a first a from ⟨wf_first, by simp [first], rfl⟩)
  clear HB1 HR1
  generalize w1.heap.size = xb at *
  go_loopw [6] (fun i wr => ∃ (k : Nat) (x : St), k ≤ s.length ∧ i = .int .i64 k ∧ Hid (RunI w xb x wr) ∧ Hid (EndK s a x k)) (fun i _ => s.length - (intOf i).toNat)
  case atStart => exact ⟨a, first, ha, rfl, HI.out, HK.out⟩
  case round =>
    clear HI HK ha
    obtain ⟨k, x, hk, rfl, HI, HK⟩ := hrel
    by_cases hlt : k < s.length
    · have h0 : (0 : Int) ≤ (k : Int) := by omega
      have h1 : (k : Int) < (s.length : Int) := by omega
      obtain ⟨s2, A2, n2, c2, f2, hc2, hd2, hbx, hr2⟩ := HI.out.ex
      have hsl := hr2.letters
      have hrl := HK.out.2.1
      have hend : endN s a = if stopB x s[k] = true then k else endFrom (step x s[k].toNat k) (k + 1) (s.drop (k + 1)) := by
        rw [HK.out.2.2, List.drop_eq_getElem_cons hlt]
        rfl
      have HR2 := Lib.hid hr2
      have HST := Lib.hid fun W (h : Below wr.heap.size wr W) => refStep_any HK.out.1 s[k] (p := k) (hr2.below h) (by omega)
      have HW2 := Lib.hid (show stopB x s[k] = false → EndK s a (step x s[k].toNat k) (k + 1) from fun h => ⟨wf_step HK.out.1 _ _, by have := step_len x s[k].toNat k; omega, by rw [hend, if_neg (by rw [h]; simp)]⟩)
      have HW1 := Lib.hid (show stopB x s[k] = true → endN s a = k from fun h => by rw [hend, if_pos h])
      have HEN := Lib.hid fun w => refEnds_any s[k] w
      unfold stopB at HW1 HW2
      rw [← hsl] at HW1 HW2
      obtain ⟨b0, b1, b2⟩ := hbx.c3
      haveI : Old wr xb := ⟨hbx.lt⟩
      clear hr2 hbx hrl hsl hend
      have hcase : (endsB s[k] = false) ∨ (endsB s[k] = true ∧ (s2 == [84]) = true) ∨ (endsB s[k] = true ∧ (s2 == [84]) = false ∧ (s2 == [84, 76]) = false) ∨ (endsB s[k] = true ∧ (s2 == [84]) = false ∧ (s2 == [84, 76]) = true ∧ ((s[k].toNat : Int) != 40) = false) ∨ (endsB s[k] = true ∧ (s2 == [84]) = false ∧ (s2 == [84, 76]) = true ∧ ((s[k].toNat : Int) != 40) = true) := by
        cases endsB s[k] <;> cases (s2 == [84]) <;> cases (s2 == [84, 76]) <;> cases ((s[k].toNat : Int) != 40) <;> simp
      rcases hcase with e1 | ⟨e1, t1⟩ | ⟨e1, t1, t2⟩ | ⟨e1, t1, t2, t3⟩ | ⟨e1, t1, t2, t3⟩
      · have HX := Lib.hid (HW2.out (by rw [e1]; rfl))
        rw [e1] at HEN
        clear HW1 HW2
        go_wp2_with (go_at_call 82; refine (HEN.out _).mono ?_; rintro e w' ⟨rfl, rfl⟩)
        (refine wp_region_grow_tail 5 (by kernel_rfl) (by kernel_rfl) ?_; simp only [List.take_succ_cons, List.take_zero, List.drop_succ_cons, List.drop_zero]; (repeat (go_big_quiet_step (fail))); refine wpQuiet_nil ?_; intro _ hw'; obtain ⟨gq, hw''⟩ := hw'; subst hw'')
        have HT := Lib.hid (HST.out _ (grow_below wr gq))
        have HI3 := Lib.hid (HI.out.below (grow_below wr gq))
        clear HST
        go_wp2_with (go_at_call 33; (refine HT.out.mono ?_); intro e w4 h4; obtain ⟨s4, A4, n4, c4, f4, rfl, hc4, hd4, hr4, hb4⟩ := h4.out; have HR4 := Lib.hid hr4; have HI4 := Lib.hid (HI3.out.below hb4); clear hr4 hb4 h4 b0 b1 b2; obtain ⟨s5, A5, n5, c5, f5, _, _, hbx5, _⟩ := HI4.out.ex; obtain ⟨b0, b1, b2⟩ := hbx5.c3; have p0 := hbx5.f 0; have p1 := hbx5.f 1; have p2 := hbx5.f 2; clear hbx5)
        go_roundw
        case rel => exact ⟨k + 1, _, by omega, by go_num, HI4.out.set hc4 hd4 HR4.out, HX.out⟩
        case measure => simp [intOf]; omega
      · have HX := Lib.hid (HW1.out (by rw [e1, t1]; rfl))
        rw [e1] at HEN
        clear HW1 HW2
        go_wp2_with (go_at_call 82; refine (HEN.out _).mono ?_; rintro e w' ⟨rfl, rfl⟩)
        go_ret
        exact ⟨by rw [HX.out]; rfl, HI.out.be⟩
      · have HX := Lib.hid (HW2.out (by rw [e1, t1, t2]; rfl))
        rw [e1] at HEN
        clear HW1 HW2
        go_wp2_with (go_at_call 82; refine (HEN.out _).mono ?_; rintro e w' ⟨rfl, rfl⟩)
        (refine wp_region_grow_tail 5 (by kernel_rfl) (by kernel_rfl) ?_; simp only [List.take_succ_cons, List.take_zero, List.drop_succ_cons, List.drop_zero]; (repeat (go_big_quiet_step (fail))); refine wpQuiet_nil ?_; intro _ hw'; obtain ⟨gq, hw''⟩ := hw'; subst hw'')
        have HT := Lib.hid (HST.out _ (grow_below wr gq))
        have HI3 := Lib.hid (HI.out.below (grow_below wr gq))
        clear HST
        go_wp2_with (go_at_call 33; (refine HT.out.mono ?_); intro e w4 h4; obtain ⟨s4, A4, n4, c4, f4, rfl, hc4, hd4, hr4, hb4⟩ := h4.out; have HR4 := Lib.hid hr4; have HI4 := Lib.hid (HI3.out.below hb4); clear hr4 hb4 h4 b0 b1 b2; obtain ⟨s5, A5, n5, c5, f5, _, _, hbx5, _⟩ := HI4.out.ex; obtain ⟨b0, b1, b2⟩ := hbx5.c3; have p0 := hbx5.f 0; have p1 := hbx5.f 1; have p2 := hbx5.f 2; clear hbx5)
        go_roundw
        case rel => exact ⟨k + 1, _, by omega, by go_num, HI4.out.set hc4 hd4 HR4.out, HX.out⟩
        case measure => simp [intOf]; omega
      · have HX := Lib.hid (HW2.out (by rw [e1, t1, t2, t3]; rfl))
        rw [e1] at HEN
        clear HW1 HW2
        go_wp2_with (go_at_call 82; refine (HEN.out _).mono ?_; rintro e w' ⟨rfl, rfl⟩)
        (refine wp_region_grow_tail 5 (by kernel_rfl) (by kernel_rfl) ?_; simp only [List.take_succ_cons, List.take_zero, List.drop_succ_cons, List.drop_zero]; (repeat (go_big_quiet_step (fail))); refine wpQuiet_nil ?_; intro _ hw'; obtain ⟨gq, hw''⟩ := hw'; subst hw'')
        have HT := Lib.hid (HST.out _ (grow_below wr gq))
        have HI3 := Lib.hid (HI.out.below (grow_below wr gq))
        clear HST
        go_wp2_with (go_at_call 33; (refine HT.out.mono ?_); intro e w4 h4; obtain ⟨s4, A4, n4, c4, f4, rfl, hc4, hd4, hr4, hb4⟩ := h4.out; have HR4 := Lib.hid hr4; have HI4 := Lib.hid (HI3.out.below hb4); clear hr4 hb4 h4 b0 b1 b2; obtain ⟨s5, A5, n5, c5, f5, _, _, hbx5, _⟩ := HI4.out.ex; obtain ⟨b0, b1, b2⟩ := hbx5.c3; have p0 := hbx5.f 0; have p1 := hbx5.f 1; have p2 := hbx5.f 2; clear hbx5)
        go_roundw
        case rel => exact ⟨k + 1, _, by omega, by go_num, HI4.out.set hc4 hd4 HR4.out, HX.out⟩
        case measure => simp [intOf]; omega
      · have HX := Lib.hid (HW1.out (by rw [e1, t1, t2, t3]; rfl))
        rw [e1] at HEN
        clear HW1 HW2
        go_wp2_with (go_at_call 82; refine (HEN.out _).mono ?_; rintro e w' ⟨rfl, rfl⟩)
        go_ret
        exact ⟨by rw [HX.out]; rfl, HI.out.be⟩
    · have hk' : k = s.length := by omega
      subst hk'
      have hend : endN s a = s.length := by rw [HK.out.2.2, List.drop_length]; rfl
      have HX := Lib.hid hend
      clear hlt hend
      go_wp2
      go_ret
      exact ⟨by rw [HX.out]; rfl, HI.out.be⟩
end Go.Proofs.YtadlaaddpobhbaaDoor.Md
