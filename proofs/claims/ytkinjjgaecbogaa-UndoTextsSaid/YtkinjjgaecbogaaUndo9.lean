/-
  The walks of layer 2 (undo), on: Push with a join (printed by gen_push2.py). Conditions: at most 2^30 steps, texts of at most 2^60 bytes.
-/
import Derived.Test.YtkinjjgaecbogaaUndo8
namespace Go.Proofs.Ytkinjjgaecbogaa
open Go.ChangeShapes Go.WideShapes Go.Deep Go.RowKit
set_option maxRecDepth 100000
set_option linter.unusedSimpArgs false
/-- What Push has in memory, ahead of a join. -/
structure PJ (W : World) (b0 jb rb ga oa : Nat) (most : Int) (l0 : List Stp) (s : Stp) : Prop where
  jc : JC W b0 jb (.slice (some ⟨ga, oa, none⟩) l0.length l0.length) most l0.length
  own : Own W b0 5 (.slice (some ⟨ga, oa, none⟩) l0.length l0.length) l0.length (l0.flatMap Stp.cells)
  box : Box5 W rb (.int .i64 s.ed.pos) (.string (B s.ed.del)) (.string (B s.ed.ins)) (.int .i64 s.ahead) (.int .i64 s.behind)
theorem PJ.below {W W' : World} {b0 jb rb ga oa : Nat} {most : Int} {l0 : List Stp} {s : Stp} (h : PJ W b0 jb rb ga oa most l0 s) (hb : Below W.heap.size W W') : PJ W' b0 jb rb ga oa most l0 s := ⟨h.jc.below hb, h.own.below hb, h.box.below hb⟩
theorem PJ.keeps {W W' : World} {b0 jb rb ga oa xb n : Nat} {most : Int} {l0 : List Stp} {s : Stp} (h : PJ W b0 jb rb ga oa most l0 s) (hk : Keeps (fun k => k = xb) W W') (h1 : jb < n) (h2 : rb < n) (h3 : ga < n) (hx : n ≤ xb) : PJ W' b0 jb rb ga oa most l0 s :=
  ⟨h.jc.keeps hk (by omega), h.own.keeps hk (fun k e _ hf => by have e2 : ga = k := Option.some.inj e; omega), h.box.keeps hk (by omega)⟩
theorem PJ.loads {W : World} {b0 jb rb ga oa q : Nat} {most : Int} {l0 : List Stp} {s x : Stp} (h : PJ W b0 jb rb ga oa most l0 s) (hx : l0[q]? = some x) :
    (W.cell? ⟨jb, 1, none⟩ = some (.slice (some ⟨ga, oa, none⟩) l0.length l0.length) ∧ W.cell? ⟨jb, 2, none⟩ = some (.int .i64 l0.length)) ∧ (W.cell? ⟨ga, oa + q * 5, none⟩ = some (.int .i64 x.ed.pos) ∧ W.cell? ⟨ga, oa + q * 5 + 1, none⟩ = some (.string (B x.ed.del)) ∧ W.cell? ⟨ga, oa + q * 5 + 2, none⟩ = some (.string (B x.ed.ins)) ∧ W.cell? ⟨ga, oa + q * 5 + 3, none⟩ = some (.int .i64 x.ahead) ∧ W.cell? ⟨ga, oa + q * 5 + 4, none⟩ = some (.int .i64 x.behind)) ∧ (W.cell? ⟨rb, 0, none⟩ = some (.int .i64 s.ed.pos) ∧ W.cell? ⟨rb, 1, none⟩ = some (.string (B s.ed.del)) ∧ W.cell? ⟨rb, 2, none⟩ = some (.string (B s.ed.ins)) ∧ W.cell? ⟨rb, 3, none⟩ = some (.int .i64 s.ahead) ∧ W.cell? ⟨rb, 4, none⟩ = some (.int .i64 s.behind)) :=
  ⟨⟨h.jc.c1, h.jc.c2⟩, h.own.stp hx, ⟨h.box.c0, h.box.c1, h.box.c2, h.box.c3, h.box.c4⟩⟩
theorem PJ.cut {W : World} {b0 jb rb ga oa q : Nat} {most : Int} {l0 l1 : List Stp} {s x : Stp} (h : PJ W b0 jb rb ga oa most l0 s) (hx : l0 = l1 ++ [x]) (hq : l1.length = q) : Own W b0 5 (.slice (some ⟨ga, oa, none⟩) q q) q (l1.flatMap Stp.cells) := by
  have := h.own.cut (k := q) (by rw [hx, ← hq]; simp)
  rw [stp_take] at this
  rwa [show l0.take q = l1 by rw [hx, ← hq]; simp] at this
/-- What a Push that joined has left. -/
structure PushY (b0 jb : Nat) (lv : Value) (most : Nat) (l : List Stp) (q : Nat) (w : World) (e : Ending) (w' : World) : Prop where
  e : e = .returned (.tuple #[])
  j : ∃ v', JAt w' b0 jb v' most l q ∧ Keeps (fun k => k = jb ∨ (lv.ownBlock = some k ∧ b0 ≤ k)) w w' ∧ ∀ k, v'.ownBlock = some k → lv.ownBlock = some k ∨ w.heap.size ≤ k
/-- What Push has left, that was to join: one step, or one more. -/
def PushJ (b0 jb : Nat) (lv : Value) (most : Nat) (l1 : List Stp) (z : Stp) (l0 : List Stp) (s : Stp) (p : Nat) (ok : Bool) (w : World) (e : Ending) (w' : World) : Prop :=
  (ok = true → PushY b0 jb lv most (l1 ++ [z]) p w e w') ∧ (ok = false → PushP b0 jb lv most (keepL most (l0 ++ [s])) (keepL most (l0 ++ [s])).length w e w')
theorem pushJ_yes {b0 jb : Nat} {lv : Value} {most : Nat} {l1 : List Stp} {z : Stp} {l0 : List Stp} {s : Stp} {p : Nat} {w : World} {e : Ending} {w' : World} (h : PushY b0 jb lv most (l1 ++ [z]) p w e w') : PushJ b0 jb lv most l1 z l0 s p true w e w' := ⟨fun _ => h, fun h => by cases h⟩
theorem pushJ_no {b0 jb : Nat} {lv : Value} {most : Nat} {l1 : List Stp} {z : Stp} {l0 : List Stp} {s : Stp} {p : Nat} {w : World} {e : Ending} {w' : World} (h : PushP b0 jb lv most (keepL most (l0 ++ [s])) (keepL most (l0 ++ [s])).length w e w') : PushJ b0 jb lv most l1 z l0 s p false w e w' := ⟨(fun h => by cases h), fun _ => h⟩
set_option maxHeartbeats 6400000 in
theorem push_j (w : World) (b0 jb : Nat) (lv : Value) (most : Nat) (l : List Stp) (p q : Nat) (l1 : List Stp) (x s z : Stp) (ok : Bool) (h : JAt w b0 jb lv most l p) (hpq : p = q + 1) (htk : l.take p = l1 ++ [x]) (hlq : l1.length = q) (hl : l.length ≤ 1073741824) (hm1 : 1 ≤ most) (hm2 : most ≤ 100000)
    (ha1 : x.ed.del.length ≤ 1152921504606846976) (ha2 : x.ed.ins.length ≤ 1152921504606846976) (hb1 : s.ed.del.length ≤ 1152921504606846976) (hb2 : s.ed.ins.length ≤ 1152921504606846976) (hz : (joinS x s = some z ∧ ok = true) ∨ (joinS x s = none ∧ z = ⟨ed0, x.ahead, s.behind⟩ ∧ ok = false)) :
    Calls Try.prog 52 #[.pointer (some ⟨jb, 0, none⟩), s.val, .bool true] w (PushJ b0 jb lv most l1 z (l.take p) s p ok w) := by
  obtain ⟨i5, hi5, hz50, hz51, hz52⟩ := info_parts info_stp
  have HJN := Lib.hid fun w => joined_any x s w ha1 ha2 hb1 hb2 z ok hz
  clear hz ha1 ha2 hb1 hb2
  have H := Lib.hid h
  have hcap := h.own.cap
  obtain ⟨A, c, rfl, hA⟩ := h.own.form0
  replace hcap := hcap A _ c rfl
  have hple := h.ple
  obtain ⟨ga, oa, rfl⟩ := hA (by omega)
  have hjw := h.lt
  have hbj := h.ge
  have hgaw := h.own.lt ga rfl
  have hgaj : ga ≠ jb := fun e => h.ne (by rw [← e]; rfl)
  have HLV : Hid (∀ j, (Value.slice (some ⟨ga, oa, none⟩) p p).ownBlock = some j → (Value.slice (some ⟨ga, oa, none⟩) l.length c).ownBlock = some j) := fun j hj => (ownSl (some ⟨ga, oa, none⟩) _ _ _ _).trans hj
  have HPQ := Lib.hid hpq
  clear h hA hpq
  unfold Stp.val at *
  go_enter Try.func52, Try.ntmps52
  go_wp2
  have HB := Lib.hid (Box5.new w (.int .i64 s.ed.pos) (.string (B s.ed.del)) (.string (B s.ed.ins)) (.int .i64 s.ahead) (.int .i64 s.behind) 89)
  have H0 := Lib.hid (H.out.below (below_alloc (Below.refl _ _) (.cells #[.int .i64 s.ed.pos, .string (B s.ed.del), .string (B s.ed.ins), .int .i64 s.ahead, .int .i64 s.behind] 89)))
  have HK0 : Hid (Keeps (fun k => k = jb ∨ ((Value.slice (some ⟨ga, oa, none⟩) l.length c).ownBlock = some k ∧ b0 ≤ k)) w (w.alloc (.cells #[.int .i64 s.ed.pos, .string (B s.ed.del), .string (B s.ed.ins), .int .i64 s.ahead, .int .i64 s.behind] 89))) := Keeps.of_below (below_alloc (Below.refl _ _) _)
  have HNR : Hid ((Value.slice (some ⟨ga, oa, none⟩) p p).ownBlock ≠ some w.heap.size) := fun e => Nat.lt_irrefl _ (H.out.own.lt _ ((ownSl (some ⟨ga, oa, none⟩) _ _ _ _).trans e))
  generalize hrb : w.heap.size = rb at *
  have hrj : rb ≠ jb := by omega
  generalize (w.alloc (.cells #[.int .i64 s.ed.pos, .string (B s.ed.del), .string (B s.ed.ins), .int .i64 s.ahead, .int .i64 s.behind] 89)) = W0 at *
  have c1 := H0.out.c1
  have c2 := H0.out.c2
  have f0 := H0.out.f0
  have hp0 : (0 : Int) ≤ (p : Int) := by omega
  have hp1 : (p : Int) ≤ (c : Int) := by omega
  haveI : Old W0 jb := ⟨H0.out.lt⟩
  haveI : Old W0 rb := ⟨HB.out.lt⟩
  have HN : Hid ((Value.slice (some ⟨ga, oa, none⟩) p p).ownBlock ≠ some jb) := fun e => H0.out.ne ((ownSl (some ⟨ga, oa, none⟩) _ _ _ _).trans e)
  have HO1 := Lib.hid (H0.out.own.cut (k := p) (by omega))
  have HC1 := Lib.hid (H0.out.jc.set1 (.slice (some ⟨ga, oa, none⟩) p p))
  have HKS := Lib.hid (Keeps.setCell (F := fun k => k = jb) W0 (a := ⟨jb, 1, none⟩) rfl (.slice (some ⟨ga, oa, none⟩) p p))
  (refine wp_region_grow_tail 14 (by kernel_rfl) (by kernel_rfl) ?_; simp only [List.take_succ_cons, List.take_zero, List.drop_succ_cons, List.drop_zero]; (repeat (go_big_quiet_step (fail))); refine wpQuiet_nil ?_; intro _ hw'; obtain ⟨gq, hw''⟩ := hw'; subst hw'')
  have hdp : decide (0 < p) = true := yes (by have := HPQ.out; omega)
  go_wp2
  generalize growSet gq ⟨jb, 1, none⟩ (.slice (some ⟨ga, oa, none⟩) p p) = g2
  have HO := Lib.hid ((HO1.out.keeps HKS.out (fun k e _ hf => HN.out (by rw [e, hf]))).below (grow_below _ g2))
  have HC := Lib.hid (HC1.out.below (grow_below _ g2))
  have HB := Lib.hid ((HB.out.keeps HKS.out hrj).keeps (Keeps.of_below (F := fun _ => False) (grow_below _ g2)) id)
  have HK := Lib.hid ((HK0.out.step HKS.out (fun j _ hf => .inl hf)).step (Keeps.of_below (F := fun _ => False) (grow_below _ g2)) (fun _ _ hf => hf.elim))
  generalize grow (W0.setCell ⟨jb, 1, none⟩ (.slice (some ⟨ga, oa, none⟩) p p)) g2 = W1 at *
  rw [stp_take] at HO
  have hl0 : (l.take p).length = p := by rw [List.length_take]; omega
  generalize l.take p = l0 at *
  clear c1 c2 f0 HO1 HC1 HKS H0 HK0 hdp
  obtain rfl : p = l0.length := hl0.symm
  have HP1 : Hid (PJ W1 b0 jb rb ga oa most l0 s) := ⟨HC.out, HO.out, HB.out⟩
  have HXQ : Hid (l0[q]? = some x) := by show _ = _; rw [htk, ← hlq]; simp
  have HL0 := Lib.hid htk
  have HLQ := Lib.hid hlq
  have hpj : jb < W1.heap.size := HC.out.lt
  have hprb : rb < W1.heap.size := HB.out.lt
  have hpga : ga < W1.heap.size := HO.out.lt ga rfl
  have hwq : IntKind.i64.wrap ((l0.length : Int) - 1) = (q : Int) := by have := HPQ.out; rw [IntWalk.i64_in _ (by omega)]; omega
  have hq0 : (0 : Int) ≤ (q : Int) := by omega
  have hq1 : (q : Int) < (l0.length : Int) := by have := HPQ.out; omega
  have hq2 : q ≤ l0.length := by have := HPQ.out; omega
  have HC0 := Lib.hid HC.out.lt
  have hbw : b0 ≤ W1.heap.size := by have := HC.out.ge; have := HC.out.lt; omega
  clear htk hlq
  go_cut [6, 7] (fun s6 s7 wx => ∃ xb : Nat, s6 = .pointer (some ⟨xb, 0, none⟩) ∧ s7 = .bool ok ∧ Hid (PJ wx b0 jb rb ga oa most l0 s) ∧ Hid (Box5 wx xb (.int .i64 z.ed.pos) (.string (B z.ed.del)) (.string (B z.ed.ins)) (.int .i64 z.ahead) (.int .i64 z.behind)) ∧ Hid (Below W1.heap.size W1 wx) ∧ W1.heap.size ≤ xb)
  case first =>
    haveI : Old W1 rb := ⟨HB.out.lt⟩
    haveI : Old W1 jb := ⟨HC.out.lt⟩
    refine wp_region_keyed (fun W => (W.cell? ⟨jb, 1, none⟩ = some (.slice (some ⟨ga, oa, none⟩) l0.length l0.length) ∧ W.cell? ⟨jb, 2, none⟩ = some (.int .i64 l0.length)) ∧ (W.cell? ⟨ga, oa + q * 5, none⟩ = some (.int .i64 x.ed.pos) ∧ W.cell? ⟨ga, oa + q * 5 + 1, none⟩ = some (.string (B x.ed.del)) ∧ W.cell? ⟨ga, oa + q * 5 + 2, none⟩ = some (.string (B x.ed.ins)) ∧ W.cell? ⟨ga, oa + q * 5 + 3, none⟩ = some (.int .i64 x.ahead) ∧ W.cell? ⟨ga, oa + q * 5 + 4, none⟩ = some (.int .i64 x.behind)) ∧ (W.cell? ⟨rb, 0, none⟩ = some (.int .i64 s.ed.pos) ∧ W.cell? ⟨rb, 1, none⟩ = some (.string (B s.ed.del)) ∧ W.cell? ⟨rb, 2, none⟩ = some (.string (B s.ed.ins)) ∧ W.cell? ⟨rb, 3, none⟩ = some (.int .i64 s.ahead) ∧ W.cell? ⟨rb, 4, none⟩ = some (.int .i64 s.behind))) [17] (by kernel_rfl) ?_
    have HP := Lib.hid (HP1.out.below (below_drew (Below.refl _ _)))
    have HB1 := Lib.hid (below_drew (Below.refl W1.heap.size W1))
    generalize W1.drew = D at *
    refine wpAnyK_take (i := 0) (v := ?v0_1c) rfl (by kernel_rfl) (by kernel_rfl) (by kernel_rfl) (by kernel_rfl) (fun _ _ _ h => h) (Or.inl ⟨by rfl, ?y0_1c⟩) (fun _ => HP.out.loads HXQ.out) ?r0_1c
    case y0_1c =>
      intro w hSw
      go_simp
      try with_reducible rfl
    try simp only [Act.put, List.setIfInBounds_toArray, List.set_cons_zero, List.set_cons_succ]
    refine wpAnyK_take (i := 1) (v := ?v1_2c) rfl (by kernel_rfl) (by kernel_rfl) (by kernel_rfl) (by kernel_rfl) (fun _ _ _ h => h) (Or.inl ⟨by rfl, ?y1_2c⟩) (fun _ => HP.out.loads HXQ.out) ?r1_2c
    case y1_2c =>
      intro w hSw
      go_simp
      try with_reducible rfl
    try simp only [Act.put, List.setIfInBounds_toArray, List.set_cons_zero, List.set_cons_succ]
    refine wpAnyK_take (i := 2) (v := ?v2_3c) rfl (by kernel_rfl) (by kernel_rfl) (by kernel_rfl) (by kernel_rfl) (fun _ _ _ h => h) (Or.inl ⟨by rfl, ?y2_3c⟩) (fun _ => HP.out.loads HXQ.out) ?r2_3c
    case y2_3c =>
      intro w hSw
      go_simp
      try with_reducible rfl
    try simp only [Act.put, List.setIfInBounds_toArray, List.set_cons_zero, List.set_cons_succ]
    refine wpAnyK_load (i := 3) [9, 10, 12, 13, 14, 15, 17, 18] (v := ?v3_4c) rfl (by kernel_rfl) (by kernel_rfl) (by kernel_rfl) (by kernel_rfl) (by kernel_rfl) (fun _ _ _ h => h) (Or.inl ⟨by rfl, ?y3_4c⟩) (fun _ => HP.out.loads HXQ.out) ?r3_4c
    case y3_4c =>
      intro w hSw
      (try dsimp only at hSw)
      go_split_ands
      go_simp
      try with_reducible rfl
    try simp only [Act.put, List.setIfInBounds_toArray, List.set_cons_zero, List.set_cons_succ]
    refine wpAnyK_take (i := 4) (v := ?v4_5c) rfl (by kernel_rfl) (by kernel_rfl) (by kernel_rfl) (by kernel_rfl) (fun _ _ _ h => h) (Or.inl ⟨by rfl, ?y4_5c⟩) (fun _ => HP.out.loads HXQ.out) ?r4_5c
    case y4_5c =>
      intro w hSw
      go_simp
      try with_reducible rfl
    try simp only [Act.put, List.setIfInBounds_toArray, List.set_cons_zero, List.set_cons_succ]
    refine wpAnyK_take (i := 5) (v := ?v5_6c) rfl (by kernel_rfl) (by kernel_rfl) (by kernel_rfl) (by kernel_rfl) (fun _ _ _ h => h) (Or.inl ⟨by rfl, ?y5_6c⟩) (fun _ => HP.out.loads HXQ.out) ?r5_6c
    case y5_6c =>
      intro w hSw
      go_simp
      try with_reducible rfl
    try simp only [Act.put, List.setIfInBounds_toArray, List.set_cons_zero, List.set_cons_succ]
    refine wpAnyK_take (i := 6) (v := ?v6_7c) rfl (by kernel_rfl) (by kernel_rfl) (by kernel_rfl) (by kernel_rfl) (fun _ _ _ h => h) (Or.inl ⟨by rfl, ?y6_7c⟩) (fun _ => HP.out.loads HXQ.out) ?r6_7c
    case y6_7c =>
      intro w hSw
      go_simp
      try with_reducible rfl
    try simp only [Act.put, List.setIfInBounds_toArray, List.set_cons_zero, List.set_cons_succ]
    refine wpAnyK_load (i := 7) [8, 9, 10, 12, 13, 14, 15, 17, 18] (v := ?v7_8c) rfl (by kernel_rfl) (by kernel_rfl) (by kernel_rfl) (by kernel_rfl) (by kernel_rfl) (fun _ _ _ h => h) (Or.inl ⟨by rfl, ?y7_8c⟩) (fun _ => HP.out.loads HXQ.out) ?r7_8c
    case y7_8c =>
      intro w hSw
      (try dsimp only at hSw)
      go_split_ands
      go_simp
      try with_reducible rfl
    try simp only [Act.put, List.setIfInBounds_toArray, List.set_cons_zero, List.set_cons_succ]
    refine wpAnyK_take (i := 8) (v := ?v8_9c) rfl (by kernel_rfl) (by kernel_rfl) (by kernel_rfl) (by kernel_rfl) (fun _ _ _ h => h) (Or.inl ⟨by rfl, ?y8_9c⟩) (fun _ => HP.out.loads HXQ.out) ?r8_9c
    case y8_9c =>
      intro w hSw
      go_simp
      try with_reducible rfl
    try simp only [Act.put, List.setIfInBounds_toArray, List.set_cons_zero, List.set_cons_succ]
    refine wpAnyK_take (i := 9) (v := ?v9_10c) rfl (by kernel_rfl) (by kernel_rfl) (by kernel_rfl) (by kernel_rfl) (fun _ _ _ h => h) (Or.inl ⟨by rfl, ?y9_10c⟩) (fun _ => HP.out.loads HXQ.out) ?r9_10c
    case y9_10c =>
      intro w hSw
      go_simp
      try with_reducible rfl
    try simp only [Act.put, List.setIfInBounds_toArray, List.set_cons_zero, List.set_cons_succ]
    refine wpAnyK_load (i := 10) [12, 13, 14, 15, 17, 18] (v := ?v10_11c) rfl (by kernel_rfl) (by kernel_rfl) (by kernel_rfl) (by kernel_rfl) (by kernel_rfl) (fun _ _ _ h => h) (Or.inl ⟨by rfl, ?y10_11c⟩) (fun _ => HP.out.loads HXQ.out) ?r10_11c
    case y10_11c =>
      intro w hSw
      (try dsimp only at hSw)
      go_split_ands
      go_simp
      try with_reducible rfl
    try simp only [Act.put, List.setIfInBounds_toArray, List.set_cons_zero, List.set_cons_succ]
    refine wpAnyK_load (i := 11) [12, 13, 14, 15, 17, 18] (v := ?v11_12c) rfl (by kernel_rfl) (by kernel_rfl) (by kernel_rfl) (by kernel_rfl) (by kernel_rfl) (fun _ _ _ h => h) (Or.inl ⟨by rfl, ?y11_12c⟩) (fun _ => HP.out.loads HXQ.out) ?r11_12c
    case y11_12c =>
      intro w hSw
      (try dsimp only at hSw)
      go_split_ands
      go_simp
      try with_reducible rfl
    try simp only [Act.put, List.setIfInBounds_toArray, List.set_cons_zero, List.set_cons_succ]
    refine wpAnyK_ready (rs := [12, 16]) (by kernel_rfl) (by simp) ?_
    refine AllReadyK.cons (i := 12) rfl (fun K hK => ?_) ?_
    · go_simp
      go_at_call 83
      refine (HJN.out D).mono ?_
      rintro e w8 ⟨rfl, hb8⟩
      have HP := Lib.hid (HP.out.below hb8)
      try have HX := Lib.hid (HX.out.below hb8)
      have HB1 := Lib.hid (below_then HB1.out hb8)
      clear hb8
      obtain ⟨D, rfl⟩ : ∃ W, W = w8 := ⟨_, rfl⟩
      dsimp only
      refine hK.out _ _ (fun _ => HP.out.loads HXQ.out) ?_
      clear hK K
      try simp only [Act.put, List.setIfInBounds_toArray, List.set_cons_zero, List.set_cons_succ]
      refine wpAnyK_take (i := 13) (v := ?v13_13c) rfl (by kernel_rfl) (by kernel_rfl) (by kernel_rfl) (by kernel_rfl) (fun _ _ _ h => h) (Or.inl ⟨by rfl, ?y13_13c⟩) (fun _ => HP.out.loads HXQ.out) ?r13_13c
      case y13_13c =>
        intro w hSw
        go_simp
        try with_reducible rfl
      try simp only [Act.put, List.setIfInBounds_toArray, List.set_cons_zero, List.set_cons_succ]
      refine wpAnyK_take (i := 14) (v := ?v14_14c) rfl (by kernel_rfl) (by kernel_rfl) (by kernel_rfl) (by kernel_rfl) (fun _ _ _ h => h) (Or.inl ⟨by rfl, ?y14_14c⟩) (fun _ => HP.out.loads HXQ.out) ?r14_14c
      case y14_14c =>
        intro w hSw
        go_simp
        try with_reducible rfl
      try simp only [Act.put, List.setIfInBounds_toArray, List.set_cons_zero, List.set_cons_succ]
      refine wpAnyK_take (i := 15) (v := ?v15_15c) rfl (by kernel_rfl) (by kernel_rfl) (by kernel_rfl) (by kernel_rfl) (fun _ _ _ h => h) (Or.inl ⟨by rfl, ?y15_15c⟩) (fun _ => HP.out.loads HXQ.out) ?r15_15c
      case y15_15c =>
        intro w hSw
        go_simp
        try with_reducible rfl
      try simp only [Act.put, List.setIfInBounds_toArray, List.set_cons_zero, List.set_cons_succ]
      refine wpAnyK_ready (rs := [16]) (by kernel_rfl) (by simp) ?_
      refine AllReadyK.cons (i := 16) rfl (fun K hK => ?_) ?_
      · go_simp
        have HP := Lib.hid (HP.out.below (below_alloc (Below.refl _ _) (.cells #[.int .i64 0, .string (B []), .string (B []), .int .i64 0, .int .i64 0] 89)))
        have HX := Lib.hid (Box5.new D (.int .i64 0) (.string (B [])) (.string (B [])) (.int .i64 0) (.int .i64 0) 89)
        have hxb : W1.heap.size ≤ D.heap.size := HB1.out.size
        have HB1 := Lib.hid (below_alloc HB1.out (.cells #[.int .i64 0, .string (B []), .string (B []), .int .i64 0, .int .i64 0] 89))
        generalize D.heap.size = xb at *
        generalize D.alloc (.cells #[.int .i64 0, .string (B []), .string (B []), .int .i64 0, .int .i64 0] 89) = D at *
        refine hK.out _ _ (fun _ => HP.out.loads HXQ.out) ?_
        clear hK K
        try simp only [Act.put, List.setIfInBounds_toArray, List.set_cons_zero, List.set_cons_succ]
        refine wpAnyK_ready (rs := [17]) (by kernel_rfl) (by simp) ?_
        refine AllReadyK.cons (i := 17) rfl (fun K hK => ?_) ?_
        · haveI : Old D xb := ⟨HX.out.lt⟩
          have x0 := HX.out.c0
          have x1 := HX.out.c1
          have x2 := HX.out.c2
          have x3 := HX.out.c3
          have x4 := HX.out.c4
          have xf := HX.out.f
          go_simp
          have HK5 := keeps5 D xb (.int .i64 z.ed.pos) (.string (B z.ed.del)) (.string (B z.ed.ins)) (.int .i64 z.ahead) (.int .i64 z.behind)
          have HX := Lib.hid (HX.out.set5 (.int .i64 z.ed.pos) (.string (B z.ed.del)) (.string (B z.ed.ins)) (.int .i64 z.ahead) (.int .i64 z.behind))
          have HB1 := Lib.hid (below_keeps HB1.out HK5 (fun k hk => by omega))
          have HP := Lib.hid (HP.out.keeps HK5 hpj hprb hpga hxb)
          clear HK5
          refine hK.out _ _ (fun h => Bool.noConfusion ((show unl _ _ = false by kernel_rfl).symm.trans h)) ?_
          clear hK K
          try simp only [Act.put, List.setIfInBounds_toArray, List.set_cons_zero, List.set_cons_succ]
          refine wpAnyK_take (i := 18) (v := ?v18_16c) rfl (by kernel_rfl) (by kernel_rfl) (by kernel_rfl) (by kernel_rfl) (fun _ _ _ h => h) (Or.inl ⟨by rfl, ?y18_16c⟩) (fun h => Bool.noConfusion ((show unl _ _ = false by kernel_rfl).symm.trans h)) ?r18_16c
          case y18_16c =>
            intro w hSw
            go_simp
            try with_reducible rfl
          try simp only [Act.put, List.setIfInBounds_toArray, List.set_cons_zero, List.set_cons_succ]
          refine wpAnyK_done (by kernel_rfl) ?_ _
          go_wp2
          go_meet
          exact ⟨xb, rfl, rfl, HP.out, HX.out, HB1.out, hxb⟩
        exact AllReadyK.nil
      exact AllReadyK.nil
    refine AllReadyK.cons (i := 16) rfl (fun K hK => ?_) ?_
    · go_simp
      have HP := Lib.hid (HP.out.below (below_alloc (Below.refl _ _) (.cells #[.int .i64 0, .string (B []), .string (B []), .int .i64 0, .int .i64 0] 89)))
      have HX := Lib.hid (Box5.new D (.int .i64 0) (.string (B [])) (.string (B [])) (.int .i64 0) (.int .i64 0) 89)
      have hxb : W1.heap.size ≤ D.heap.size := HB1.out.size
      have HB1 := Lib.hid (below_alloc HB1.out (.cells #[.int .i64 0, .string (B []), .string (B []), .int .i64 0, .int .i64 0] 89))
      generalize D.heap.size = xb at *
      generalize D.alloc (.cells #[.int .i64 0, .string (B []), .string (B []), .int .i64 0, .int .i64 0] 89) = D at *
      refine hK.out _ _ (fun _ => HP.out.loads HXQ.out) ?_
      clear hK K
      try simp only [Act.put, List.setIfInBounds_toArray, List.set_cons_zero, List.set_cons_succ]
      refine wpAnyK_ready (rs := [12]) (by kernel_rfl) (by simp) ?_
      refine AllReadyK.cons (i := 12) rfl (fun K hK => ?_) ?_
      · go_simp
        go_at_call 83
        refine (HJN.out D).mono ?_
        rintro e w8 ⟨rfl, hb8⟩
        have HP := Lib.hid (HP.out.below hb8)
        try have HX := Lib.hid (HX.out.below hb8)
        have HB1 := Lib.hid (below_then HB1.out hb8)
        clear hb8
        obtain ⟨D, rfl⟩ : ∃ W, W = w8 := ⟨_, rfl⟩
        dsimp only
        refine hK.out _ _ (fun _ => HP.out.loads HXQ.out) ?_
        clear hK K
        try simp only [Act.put, List.setIfInBounds_toArray, List.set_cons_zero, List.set_cons_succ]
        refine wpAnyK_take (i := 13) (v := ?v13_17c) rfl (by kernel_rfl) (by kernel_rfl) (by kernel_rfl) (by kernel_rfl) (fun _ _ _ h => h) (Or.inl ⟨by rfl, ?y13_17c⟩) (fun _ => HP.out.loads HXQ.out) ?r13_17c
        case y13_17c =>
          intro w hSw
          go_simp
          try with_reducible rfl
        try simp only [Act.put, List.setIfInBounds_toArray, List.set_cons_zero, List.set_cons_succ]
        refine wpAnyK_take (i := 14) (v := ?v14_18c) rfl (by kernel_rfl) (by kernel_rfl) (by kernel_rfl) (by kernel_rfl) (fun _ _ _ h => h) (Or.inl ⟨by rfl, ?y14_18c⟩) (fun _ => HP.out.loads HXQ.out) ?r14_18c
        case y14_18c =>
          intro w hSw
          go_simp
          try with_reducible rfl
        try simp only [Act.put, List.setIfInBounds_toArray, List.set_cons_zero, List.set_cons_succ]
        refine wpAnyK_take (i := 15) (v := ?v15_19c) rfl (by kernel_rfl) (by kernel_rfl) (by kernel_rfl) (by kernel_rfl) (fun _ _ _ h => h) (Or.inl ⟨by rfl, ?y15_19c⟩) (fun _ => HP.out.loads HXQ.out) ?r15_19c
        case y15_19c =>
          intro w hSw
          go_simp
          try with_reducible rfl
        try simp only [Act.put, List.setIfInBounds_toArray, List.set_cons_zero, List.set_cons_succ]
        refine wpAnyK_ready (rs := [17]) (by kernel_rfl) (by simp) ?_
        refine AllReadyK.cons (i := 17) rfl (fun K hK => ?_) ?_
        · haveI : Old D xb := ⟨HX.out.lt⟩
          have x0 := HX.out.c0
          have x1 := HX.out.c1
          have x2 := HX.out.c2
          have x3 := HX.out.c3
          have x4 := HX.out.c4
          have xf := HX.out.f
          go_simp
          have HK5 := keeps5 D xb (.int .i64 z.ed.pos) (.string (B z.ed.del)) (.string (B z.ed.ins)) (.int .i64 z.ahead) (.int .i64 z.behind)
          have HX := Lib.hid (HX.out.set5 (.int .i64 z.ed.pos) (.string (B z.ed.del)) (.string (B z.ed.ins)) (.int .i64 z.ahead) (.int .i64 z.behind))
          have HB1 := Lib.hid (below_keeps HB1.out HK5 (fun k hk => by omega))
          have HP := Lib.hid (HP.out.keeps HK5 hpj hprb hpga hxb)
          clear HK5
          refine hK.out _ _ (fun h => Bool.noConfusion ((show unl _ _ = false by kernel_rfl).symm.trans h)) ?_
          clear hK K
          try simp only [Act.put, List.setIfInBounds_toArray, List.set_cons_zero, List.set_cons_succ]
          refine wpAnyK_take (i := 18) (v := ?v18_20c) rfl (by kernel_rfl) (by kernel_rfl) (by kernel_rfl) (by kernel_rfl) (fun _ _ _ h => h) (Or.inl ⟨by rfl, ?y18_20c⟩) (fun h => Bool.noConfusion ((show unl _ _ = false by kernel_rfl).symm.trans h)) ?r18_20c
          case y18_20c =>
            intro w hSw
            go_simp
            try with_reducible rfl
          try simp only [Act.put, List.setIfInBounds_toArray, List.set_cons_zero, List.set_cons_succ]
          refine wpAnyK_done (by kernel_rfl) ?_ _
          go_wp2
          go_meet
          exact ⟨xb, rfl, rfl, HP.out, HX.out, HB1.out, hxb⟩
        exact AllReadyK.nil
      exact AllReadyK.nil
    exact AllReadyK.nil
  case rest =>
    obtain ⟨xb, rfl, rfl, HP, HX, HB1, hxb⟩ := hcut
    have HO := Lib.hid HP.out.own
    have HC := Lib.hid HP.out.jc
    have HB := Lib.hid HP.out.box
    have HK := Lib.hid (HK.out.trans (Keeps.of_below HB1.out))
    have HO5 := Lib.hid (HP.out.cut HL0.out HLQ.out)
    have hbw := Nat.le_trans hbw HB1.out.size
    have HC0 := Lib.hid HC.out.lt
    haveI : Old wc rb := ⟨HB.out.lt⟩
    haveI : Old wc jb := ⟨HC.out.lt⟩
    haveI : Old wc xb := ⟨HX.out.lt⟩
    cases ok with
    | false =>
      go_wp2
      clear HP HP1 HX HB1 HO5
      obtain ⟨W1, rfl⟩ : ∃ W, W = wc := ⟨_, rfl⟩
      refine wp_region_keyed (fun W => W.cell? ⟨jb, 1, none⟩ = some (.slice (some ⟨ga, oa, none⟩) l0.length l0.length) ∧ W.cell? ⟨rb, 0, none⟩ = some (.int .i64 s.ed.pos) ∧ W.cell? ⟨rb, 1, none⟩ = some (.string (B s.ed.del)) ∧ W.cell? ⟨rb, 2, none⟩ = some (.string (B s.ed.ins)) ∧ W.cell? ⟨rb, 3, none⟩ = some (.int .i64 s.ahead) ∧ W.cell? ⟨rb, 4, none⟩ = some (.int .i64 s.behind)) [10] (by kernel_rfl) ?_
      have HC := Lib.hid (HC.out.below (below_drew (Below.refl _ _)))
      have HB := Lib.hid (HB.out.keeps (Keeps.of_below (F := fun _ => False) (below_drew (Below.refl _ _))) id)
      have HO := Lib.hid (HO.out.below (below_drew (Below.refl _ _)))
      have HK := Lib.hid (HK.out.trans (Keeps.of_below (below_drew (Below.refl _ _))))
      have hDs : b0 ≤ W1.drew.heap.size := hbw
      generalize W1.drew = D at *
      refine wpAnyK_take (i := 0) (v := ?v0_1d) rfl (by kernel_rfl) (by kernel_rfl) (by kernel_rfl) (by kernel_rfl) (fun _ _ _ h => h) (Or.inl ⟨by rfl, ?y0_1d⟩) (fun _ => ⟨HC.out.c1, HB.out.c0, HB.out.c1, HB.out.c2, HB.out.c3, HB.out.c4⟩) ?r0_1d
      case y0_1d =>
        intro w hSw
        go_simp
        try with_reducible rfl
      try simp only [Act.put, List.setIfInBounds_toArray, List.set_cons_zero, List.set_cons_succ]
      refine wpAnyK_take (i := 1) (v := ?v1_2d) rfl (by kernel_rfl) (by kernel_rfl) (by kernel_rfl) (by kernel_rfl) (fun _ _ _ h => h) (Or.inl ⟨by rfl, ?y1_2d⟩) (fun _ => ⟨HC.out.c1, HB.out.c0, HB.out.c1, HB.out.c2, HB.out.c3, HB.out.c4⟩) ?r1_2d
      case y1_2d =>
        intro w hSw
        go_simp
        try with_reducible rfl
      try simp only [Act.put, List.setIfInBounds_toArray, List.set_cons_zero, List.set_cons_succ]
      refine wpAnyK_take (i := 2) (v := ?v2_3d) rfl (by kernel_rfl) (by kernel_rfl) (by kernel_rfl) (by kernel_rfl) (fun _ _ _ h => h) (Or.inl ⟨by rfl, ?y2_3d⟩) (fun _ => ⟨HC.out.c1, HB.out.c0, HB.out.c1, HB.out.c2, HB.out.c3, HB.out.c4⟩) ?r2_3d
      case y2_3d =>
        intro w hSw
        go_simp
        try with_reducible rfl
      try simp only [Act.put, List.setIfInBounds_toArray, List.set_cons_zero, List.set_cons_succ]
      refine wpAnyK_take (i := 3) (v := ?v3_4d) rfl (by kernel_rfl) (by kernel_rfl) (by kernel_rfl) (by kernel_rfl) (fun _ _ _ h => h) (Or.inl ⟨by rfl, ?y3_4d⟩) (fun _ => ⟨HC.out.c1, HB.out.c0, HB.out.c1, HB.out.c2, HB.out.c3, HB.out.c4⟩) ?r3_4d
      case y3_4d =>
        intro w hSw
        go_simp
        try with_reducible rfl
      try simp only [Act.put, List.setIfInBounds_toArray, List.set_cons_zero, List.set_cons_succ]
      refine wpAnyK_load (i := 4) [7, 8, 9, 10] (v := ?v4_5d) rfl (by kernel_rfl) (by kernel_rfl) (by kernel_rfl) (by kernel_rfl) (by kernel_rfl) (fun _ _ _ h => h) (Or.inl ⟨by rfl, ?y4_5d⟩) (fun _ => ⟨HC.out.c1, HB.out.c0, HB.out.c1, HB.out.c2, HB.out.c3, HB.out.c4⟩) ?r4_5d
      case y4_5d =>
        intro w hSw
        (try dsimp only at hSw)
        go_split_ands
        go_simp
        try with_reducible rfl
      try simp only [Act.put, List.setIfInBounds_toArray, List.set_cons_zero, List.set_cons_succ]
      refine wpAnyK_load (i := 5) [6, 7, 8, 9, 10] (v := ?v5_6d) rfl (by kernel_rfl) (by kernel_rfl) (by kernel_rfl) (by kernel_rfl) (by kernel_rfl) (fun _ _ _ h => h) (Or.inl ⟨by rfl, ?y5_6d⟩) (fun _ => ⟨HC.out.c1, HB.out.c0, HB.out.c1, HB.out.c2, HB.out.c3, HB.out.c4⟩) ?r5_6d
      case y5_6d =>
        intro w hSw
        (try dsimp only at hSw)
        go_split_ands
        go_simp
        try with_reducible rfl
      try simp only [Act.put, List.setIfInBounds_toArray, List.set_cons_zero, List.set_cons_succ]
      refine wpAnyK_ready (rs := [6]) (by kernel_rfl) (by simp) ?_
      refine AllReadyK.cons (i := 6) rfl (fun K hK => ?_) ?_
      · go_simp
        have HC := Lib.hid (HC.out.below (below_alloc (Below.refl _ _) (.cells #[.int .i64 s.ed.pos, .string (B s.ed.del), .string (B s.ed.ins), .int .i64 s.ahead, .int .i64 s.behind] 89)))
        have HB := Lib.hid (HB.out.keeps (Keeps.of_below (F := fun _ => False) (below_alloc (Below.refl _ _) (.cells #[.int .i64 s.ed.pos, .string (B s.ed.del), .string (B s.ed.ins), .int .i64 s.ahead, .int .i64 s.behind] 89))) id)
        have HK := Lib.hid (HK.out.trans (Keeps.of_below (below_alloc (Below.refl _ _) (.cells #[.int .i64 s.ed.pos, .string (B s.ed.del), .string (B s.ed.ins), .int .i64 s.ahead, .int .i64 s.behind] 89))))
        refine hK.out _ _ (fun _ => ⟨HC.out.c1, HB.out.c0, HB.out.c1, HB.out.c2, HB.out.c3, HB.out.c4⟩) ?_
        clear hK K
        try simp only [Act.put, List.setIfInBounds_toArray, List.set_cons_zero, List.set_cons_succ]
        refine wpAnyK_ready (rs := [7]) (by kernel_rfl) (by simp) ?_
        refine AllReadyK.cons (i := 7) rfl (fun K hK => ?_) ?_
        · (refine step_append_src _ rfl (.tmp 74) (.tmp 76) _ rfl b0 89 i5 _ 5 56 Try.underlying87 hi5 hz50 hz51 hz52 rfl (by decide) _ l0.length (l0.flatMap Stp.cells) rfl (HO.out.below (below_alloc (Below.refl _ _) _)) _ 1 (Stp.cells s) rfl rfl (by refine src_one _ _ _ _ _ ?_; first | rfl | (simp; done) | omega | (simp; omega)) (by simp [Stp.cells, Value.oneCell']) (by unfold maxLen; omega) (by omega) (by first | (simp; done) | omega | (simp; omega)) ?_; intro v7 w7 hown7 hg7 hat7 hty7; have HTY7 := Lib.hid hty7; clear hty7)
          have hlt7 := HC.out.lt
          have HC := Lib.hid (HC.out.keeps hg7 (fun hf => HN.out hf.1))
          have HB := Lib.hid (HB.out.keeps hg7 (fun hf => HNR.out hf.1))
          have HK := Lib.hid (HK.out.step hg7 (fun j _ hf => .inr ⟨HLV.out j hf.1, hf.2⟩))
          have HO7 := Lib.hid (own_snocS hown7)
          have HN7 : Hid (v7.ownBlock ≠ some jb) := by
            intro e
            rcases hat7 with e1 | e1
            · exact HN.out (e1 ▸ e)
            · have := e1 _ e; omega
          obtain ⟨g7, o7, c7, rfl, -, -, -, -⟩ := hown7.form
          clear hown7 hg7 hat7
          refine hK.out _ _ (fun _ => ⟨HC.out.c1, HB.out.c0, HB.out.c1, HB.out.c2, HB.out.c3, HB.out.c4⟩) ?_
          clear hK K
          try simp only [Act.put, List.setIfInBounds_toArray, List.set_cons_zero, List.set_cons_succ]
          refine wpAnyK_take (i := 8) (v := ?v8_7d) rfl (by kernel_rfl) (by kernel_rfl) (by kernel_rfl) (by kernel_rfl) (fun _ _ _ h => h) (Or.inl ⟨by rfl, ?y8_7d⟩) (fun _ => ⟨HC.out.c1, HB.out.c0, HB.out.c1, HB.out.c2, HB.out.c3, HB.out.c4⟩) ?r8_7d
          case y8_7d =>
            intro w hSw
            go_simp
            try with_reducible rfl
          try simp only [Act.put, List.setIfInBounds_toArray, List.set_cons_zero, List.set_cons_succ]
          refine wpAnyK_take (i := 9) (v := ?v9_8d) rfl (by kernel_rfl) (by kernel_rfl) (by kernel_rfl) (by kernel_rfl) (fun _ _ _ h => h) (Or.inl ⟨by rfl, ?y9_8d⟩) (fun _ => ⟨HC.out.c1, HB.out.c0, HB.out.c1, HB.out.c2, HB.out.c3, HB.out.c4⟩) ?r9_8d
          case y9_8d =>
            intro w hSw
            go_simp
            try with_reducible rfl
          try simp only [Act.put, List.setIfInBounds_toArray, List.set_cons_zero, List.set_cons_succ]
          refine wpAnyK_ready (rs := [10]) (by kernel_rfl) (by simp) ?_
          refine AllReadyK.cons (i := 10) rfl (fun K hK => ?_) ?_
          · have c1 := HC.out.c1
            have f0 := HC.out.f0
            go_simp
            refine hK.out _ _ (fun h => Bool.noConfusion ((show unl _ _ = false by kernel_rfl).symm.trans h)) ?_
            clear hK K
            try simp only [Act.put, List.setIfInBounds_toArray, List.set_cons_zero, List.set_cons_succ]
            refine wpAnyK_done (by kernel_rfl) ?_ _
            have HJ : Hid (JAt (w7.setCell ⟨jb, 1, none⟩ (.slice (some ⟨g7, o7, none⟩) (l0.length + 1) c7)) b0 jb (.slice (some ⟨g7, o7, none⟩) (l0.length + 1) c7) most (l0 ++ [s]) l0.length) := JC.jat (HC.out.set1 (.slice (some ⟨g7, o7, none⟩) (l0.length + 1) c7)) (HO7.out.keeps (Keeps.setCell (F := fun k => k = jb) w7 (a := ⟨jb, 1, none⟩) rfl (.slice (some ⟨g7, o7, none⟩) (l0.length + 1) c7)) (fun k e _ hf => HN7.out (by rw [e, hf]))) HN7.out (by simp)
            have HK := Lib.hid (HK.out.step (Keeps.setCell (F := fun k => k = jb) w7 (a := ⟨jb, 1, none⟩) rfl (.slice (some ⟨g7, o7, none⟩) (l0.length + 1) c7)) (fun j _ hf => .inl hf))
            try simp only [Act.put, List.setIfInBounds_toArray, List.set_cons_zero, List.set_cons_succ]
            obtain ⟨W2, hW2⟩ : ∃ W2, W2 = w7.setCell ⟨jb, 1, none⟩ (.slice (some ⟨g7, o7, none⟩) (l0.length + 1) c7) := ⟨_, rfl⟩
            rw [← hW2] at HJ HK ⊢
            clear hW2 HC HB HO HO7
            have hlen7 : (l0 ++ [s]).length = l0.length + 1 := by simp
            generalize hl1 : l0 ++ [s] = l1 at *
            obtain ⟨g, off, c, e, hgb, hg, hcl, hcm⟩ := HJ.out.own.form' (by omega)
            injection e with e1 e2 e3
            injection e1 with e1
            cases e1
            subst e3
            clear e2
            have c0 := HJ.out.c0
            have c1 := HJ.out.c1
            have c2 := HJ.out.c2
            have f0 := HJ.out.f0
            haveI : Old W2 jb := ⟨HJ.out.lt⟩
            have hcast : ((l1.length : Nat) : Int) = (l0.length : Int) + 1 := by omega
            by_cases hbig : most < l1.length
            · have hb1 : decide (most < l0.length + 1) = true := decide_eq_true (by omega)
              go_wp2
              (refine wp_region_grow (by kernel_rfl) (by kernel_rfl) ?_; (repeat (go_big_quiet_step (fail))); refine wpQuiet_nil ?_; intro _ hw'; obtain ⟨gq, hw''⟩ := hw'; subst hw'')
              go_wp2
              obtain ⟨d, hd⟩ : ∃ d, l0.length + 1 = d + most := ⟨l0.length + 1 - most, by omega⟩
              have hd2 : (l0.length : Int) + 1 - (most : Int) = (d : Int) := by omega
              have hw : IntKind.i64.wrap ((l0.length : Int) + 1 - (most : Int)) = (d : Int) := by rw [hd2]; exact IntWalk.i64_in _ (by omega)
              have hdc : (d : Int) ≤ (c7 : Int) := by omega
              have hd0 : (0 : Int) ≤ (d : Int) := by omega
              have hwd : IntKind.i64.wrap (d : Int) = (d : Int) := IntWalk.i64_in _ (by omega)
              have hcne : ¬ c7 = d := by omega
              have hdm : (d : Int) ≤ (d : Int) + (most : Int) := by omega
              refine wp_region_keyed (fun W => W.cell? ⟨jb, 0, none⟩ = some (.int .i64 most) ∧ W.cell? ⟨jb, 1, none⟩ = some (.slice (some ⟨g7, o7, none⟩) (l0.length + 1) c7)) [19] (by kernel_rfl) ?_
              have HC8 := Lib.hid (HJ.out.jc.below (below_drew (grow_below W2 gq)))
              have HO8 := Lib.hid (HJ.out.own.below (below_drew (grow_below W2 gq)))
              have HK8 := Lib.hid (HK.out.trans (Keeps.of_below (below_drew (grow_below W2 gq))))
              have HB8 : Hid (b0 ≤ (grow W2 gq).drew.heap.size) := by have := HC8.out.ge; have := HC8.out.lt; show _ ≤ _; omega
              generalize (grow W2 gq).drew = D at *
              refine wpAnyK_take (i := 0) (v := ?v0_1dx) rfl (by kernel_rfl) (by kernel_rfl) (by kernel_rfl) (by kernel_rfl) (fun _ _ _ h => h) (Or.inl ⟨by rfl, ?y0_1dx⟩) (fun _ => ⟨HC8.out.c0, HC8.out.c1⟩) ?r0_1dx
              case y0_1dx =>
                intro w hSw
                go_simp
                try with_reducible rfl
              try simp only [Act.put, List.setIfInBounds_toArray, List.set_cons_zero, List.set_cons_succ]
              refine wpAnyK_take (i := 1) (v := ?v1_2dx) rfl (by kernel_rfl) (by kernel_rfl) (by kernel_rfl) (by kernel_rfl) (fun _ _ _ h => h) (Or.inl ⟨by rfl, ?y1_2dx⟩) (fun _ => ⟨HC8.out.c0, HC8.out.c1⟩) ?r1_2dx
              case y1_2dx =>
                intro w hSw
                go_simp
                try with_reducible rfl
              try simp only [Act.put, List.setIfInBounds_toArray, List.set_cons_zero, List.set_cons_succ]
              refine wpAnyK_take (i := 2) (v := ?v2_3dx) rfl (by kernel_rfl) (by kernel_rfl) (by kernel_rfl) (by kernel_rfl) (fun _ _ _ h => h) (Or.inl ⟨by rfl, ?y2_3dx⟩) (fun _ => ⟨HC8.out.c0, HC8.out.c1⟩) ?r2_3dx
              case y2_3dx =>
                intro w hSw
                go_simp
                try with_reducible rfl
              try simp only [Act.put, List.setIfInBounds_toArray, List.set_cons_zero, List.set_cons_succ]
              refine wpAnyK_take (i := 3) (v := ?v3_4dx) rfl (by kernel_rfl) (by kernel_rfl) (by kernel_rfl) (by kernel_rfl) (fun _ _ _ h => h) (Or.inl ⟨by rfl, ?y3_4dx⟩) (fun _ => ⟨HC8.out.c0, HC8.out.c1⟩) ?r3_4dx
              case y3_4dx =>
                intro w hSw
                go_simp
                try with_reducible rfl
              try simp only [Act.put, List.setIfInBounds_toArray, List.set_cons_zero, List.set_cons_succ]
              refine wpAnyK_load (i := 4) [15, 16, 17, 18, 19] (v := ?v4_5dx) rfl (by kernel_rfl) (by kernel_rfl) (by kernel_rfl) (by kernel_rfl) (by kernel_rfl) (fun _ _ _ h => h) (Or.inl ⟨by rfl, ?y4_5dx⟩) (fun _ => ⟨HC8.out.c0, HC8.out.c1⟩) ?r4_5dx
              case y4_5dx =>
                intro w hSw
                (try dsimp only at hSw)
                go_split_ands
                go_simp
                try with_reducible rfl
              try simp only [Act.put, List.setIfInBounds_toArray, List.set_cons_zero, List.set_cons_succ]
              refine wpAnyK_take (i := 5) (v := ?v5_6dx) rfl (by kernel_rfl) (by kernel_rfl) (by kernel_rfl) (by kernel_rfl) (fun _ _ _ h => h) (Or.inl ⟨by rfl, ?y5_6dx⟩) (fun _ => ⟨HC8.out.c0, HC8.out.c1⟩) ?r5_6dx
              case y5_6dx =>
                intro w hSw
                go_simp
                try with_reducible rfl
              try simp only [Act.put, List.setIfInBounds_toArray, List.set_cons_zero, List.set_cons_succ]
              refine wpAnyK_take (i := 6) (v := ?v6_7dx) rfl (by kernel_rfl) (by kernel_rfl) (by kernel_rfl) (by kernel_rfl) (fun _ _ _ h => h) (Or.inl ⟨by rfl, ?y6_7dx⟩) (fun _ => ⟨HC8.out.c0, HC8.out.c1⟩) ?r6_7dx
              case y6_7dx =>
                intro w hSw
                go_simp
                try with_reducible rfl
              try simp only [Act.put, List.setIfInBounds_toArray, List.set_cons_zero, List.set_cons_succ]
              refine wpAnyK_take (i := 7) (v := ?v7_8dx) rfl (by kernel_rfl) (by kernel_rfl) (by kernel_rfl) (by kernel_rfl) (fun _ _ _ h => h) (Or.inl ⟨by rfl, ?y7_8dx⟩) (fun _ => ⟨HC8.out.c0, HC8.out.c1⟩) ?r7_8dx
              case y7_8dx =>
                intro w hSw
                go_simp
                try with_reducible rfl
              try simp only [Act.put, List.setIfInBounds_toArray, List.set_cons_zero, List.set_cons_succ]
              refine wpAnyK_load (i := 8) [9, 14, 15, 16, 17, 18, 19] (v := ?v8_9dx) rfl (by kernel_rfl) (by kernel_rfl) (by kernel_rfl) (by kernel_rfl) (by kernel_rfl) (fun _ _ _ h => h) (Or.inl ⟨by rfl, ?y8_9dx⟩) (fun _ => ⟨HC8.out.c0, HC8.out.c1⟩) ?r8_9dx
              case y8_9dx =>
                intro w hSw
                (try dsimp only at hSw)
                go_split_ands
                go_simp
                try with_reducible rfl
              try simp only [Act.put, List.setIfInBounds_toArray, List.set_cons_zero, List.set_cons_succ]
              refine wpAnyK_take (i := 9) (v := ?v9_10dx) rfl (by kernel_rfl) (by kernel_rfl) (by kernel_rfl) (by kernel_rfl) (fun _ _ _ h => h) (Or.inl ⟨by rfl, ?y9_10dx⟩) (fun _ => ⟨HC8.out.c0, HC8.out.c1⟩) ?r9_10dx
              case y9_10dx =>
                intro w hSw
                go_simp
                try with_reducible rfl
              try simp only [Act.put, List.setIfInBounds_toArray, List.set_cons_zero, List.set_cons_succ]
              refine wpAnyK_take (i := 10) (v := ?v10_11dx) rfl (by kernel_rfl) (by kernel_rfl) (by kernel_rfl) (by kernel_rfl) (fun _ _ _ h => h) (Or.inl ⟨by rfl, ?y10_11dx⟩) (fun _ => ⟨HC8.out.c0, HC8.out.c1⟩) ?r10_11dx
              case y10_11dx =>
                intro w hSw
                go_simp
                try with_reducible rfl
              try simp only [Act.put, List.setIfInBounds_toArray, List.set_cons_zero, List.set_cons_succ]
              refine wpAnyK_take (i := 11) (v := ?v11_12dx) rfl (by kernel_rfl) (by kernel_rfl) (by kernel_rfl) (by kernel_rfl) (fun _ _ _ h => h) (Or.inl ⟨by rfl, ?y11_12dx⟩) (fun _ => ⟨HC8.out.c0, HC8.out.c1⟩) ?r11_12dx
              case y11_12dx =>
                intro w hSw
                go_simp
                try with_reducible rfl
              try simp only [Act.put, List.setIfInBounds_toArray, List.set_cons_zero, List.set_cons_succ]
              refine wpAnyK_take (i := 12) (v := ?v12_13dx) rfl (by kernel_rfl) (by kernel_rfl) (by kernel_rfl) (by kernel_rfl) (fun _ _ _ h => h) (Or.inl ⟨by rfl, ?y12_13dx⟩) (fun _ => ⟨HC8.out.c0, HC8.out.c1⟩) ?r12_13dx
              case y12_13dx =>
                intro w hSw
                go_simp
                try with_reducible rfl
              try simp only [Act.put, List.setIfInBounds_toArray, List.set_cons_zero, List.set_cons_succ]
              refine wpAnyK_load (i := 13) [14, 15, 16, 17, 18, 19] (v := ?v13_14dx) rfl (by kernel_rfl) (by kernel_rfl) (by kernel_rfl) (by kernel_rfl) (by kernel_rfl) (fun _ _ _ h => h) (Or.inl ⟨by rfl, ?y13_14dx⟩) (fun _ => ⟨HC8.out.c0, HC8.out.c1⟩) ?r13_14dx
              case y13_14dx =>
                intro w hSw
                (try dsimp only at hSw)
                go_split_ands
                go_simp
                try with_reducible rfl
              try simp only [Act.put, List.setIfInBounds_toArray, List.set_cons_zero, List.set_cons_succ]
              refine wpAnyK_take (i := 14) (v := ?v14_15dx) rfl (by kernel_rfl) (by kernel_rfl) (by kernel_rfl) (by kernel_rfl) (fun _ _ _ h => h) (Or.inl ⟨by rfl, ?y14_15dx⟩) (fun _ => ⟨HC8.out.c0, HC8.out.c1⟩) ?r14_15dx
              case y14_15dx =>
                intro w hSw
                go_simp
                try with_reducible rfl
              try simp only [Act.put, List.setIfInBounds_toArray, List.set_cons_zero, List.set_cons_succ]
              refine wpAnyK_take (i := 15) (v := ?v15_16dx) rfl (by kernel_rfl) (by kernel_rfl) (by kernel_rfl) (by kernel_rfl) (fun _ _ _ h => h) (Or.inl ⟨by rfl, ?y15_16dx⟩) (fun _ => ⟨HC8.out.c0, HC8.out.c1⟩) ?r15_16dx
              case y15_16dx =>
                intro w hSw
                go_simp
                try with_reducible rfl
              try simp only [Act.put, List.setIfInBounds_toArray, List.set_cons_zero, List.set_cons_succ]
              refine wpAnyK_ready (rs := [16]) (by kernel_rfl) (by simp) ?_
              refine AllReadyK.cons (i := 16) rfl (fun K hK => ?_) ?_
              · go_simp
                go_at_call 84
                refine (clone_stp (l1.drop d) _ D (own_dropS HO8.out (by omega) (by omega)) (by simp; omega)).mono ?_
                rintro e w8 ⟨v8, rfl, ho8, hb8⟩
                have hln : (l1.drop d).length = most := by simp; omega
                rw [hln] at ho8
                obtain ⟨g8, o8, c8, rfl, hgb8, -, -, -⟩ := ho8.form' (by omega)
                have hlt8 := HC8.out.lt
                have HC8 := Lib.hid (HC8.out.below hb8)
                have HO9 := Lib.hid (ho8.mono HB8.out)
                have HK8 := Lib.hid (HK8.out.trans (Keeps.of_below hb8))
                have HN9 : Hid ((Value.slice (some ⟨g8, o8, none⟩) most c8).ownBlock ≠ some jb) := by intro e; have e2 : g8 = jb := Option.some.inj e; omega
                clear ho8 hb8
                dsimp only
                refine hK.out _ _ (fun _ => ⟨HC8.out.c0, HC8.out.c1⟩) ?_
                clear hK K
                try simp only [Act.put, List.setIfInBounds_toArray, List.set_cons_zero, List.set_cons_succ]
                refine wpAnyK_take (i := 17) (v := ?v17_17dx) rfl (by kernel_rfl) (by kernel_rfl) (by kernel_rfl) (by kernel_rfl) (fun _ _ _ h => h) (Or.inl ⟨by rfl, ?y17_17dx⟩) (fun _ => ⟨HC8.out.c0, HC8.out.c1⟩) ?r17_17dx
                case y17_17dx =>
                  intro w hSw
                  go_simp
                  try with_reducible rfl
                try simp only [Act.put, List.setIfInBounds_toArray, List.set_cons_zero, List.set_cons_succ]
                refine wpAnyK_take (i := 18) (v := ?v18_18dx) rfl (by kernel_rfl) (by kernel_rfl) (by kernel_rfl) (by kernel_rfl) (fun _ _ _ h => h) (Or.inl ⟨by rfl, ?y18_18dx⟩) (fun _ => ⟨HC8.out.c0, HC8.out.c1⟩) ?r18_18dx
                case y18_18dx =>
                  intro w hSw
                  go_simp
                  try with_reducible rfl
                try simp only [Act.put, List.setIfInBounds_toArray, List.set_cons_zero, List.set_cons_succ]
                refine wpAnyK_ready (rs := [19]) (by kernel_rfl) (by simp) ?_
                refine AllReadyK.cons (i := 19) rfl (fun K hK => ?_) ?_
                · have c1 := HC8.out.c1
                  have f0 := HC8.out.f0
                  go_simp
                  refine hK.out _ _ (fun h => Bool.noConfusion ((show unl _ _ = false by kernel_rfl).symm.trans h)) ?_
                  clear hK K
                  try simp only [Act.put, List.setIfInBounds_toArray, List.set_cons_zero, List.set_cons_succ]
                  refine wpAnyK_done (by kernel_rfl) ?_ _
                  try simp only [Act.put, List.setIfInBounds_toArray, List.set_cons_zero, List.set_cons_succ]
                  have hk9 := Keeps.setCell (F := fun k => k = jb) w8 (a := ⟨jb, 1, none⟩) rfl (.slice (some ⟨g8, o8, none⟩) most c8)
                  have HC9 := Lib.hid (HC8.out.set1 (.slice (some ⟨g8, o8, none⟩) most c8))
                  have HO9 := Lib.hid (HO9.out.keeps hk9 (fun k e _ hf => HN9.out (by rw [e, hf])))
                  have HK9 := Lib.hid (HK8.out.step hk9 (fun j _ hf => .inl hf))
                  obtain ⟨W4, hW4⟩ : ∃ W4, W4 = w8.setCell ⟨jb, 1, none⟩ (.slice (some ⟨g8, o8, none⟩) most c8) := ⟨_, rfl⟩
                  rw [← hW4] at HC9 HO9 HK9 ⊢
                  clear hW4 hk9 HC8 HK8
                  have c1 := HC9.out.c1
                  have c2 := HC9.out.c2
                  have f0 := HC9.out.f0
                  haveI : Old W4 jb := ⟨HC9.out.lt⟩
                  have HKL := Lib.hid (show keepL most l1 = l1.drop d by unfold keepL; rw [show l1.length - most = d by omega])
                  go_wp2
                  go_end0
                  refine pushJ_no ?_
                  rw [hl1]
                  rw [HKL.out]
                  have hj2 := HC9.out.set2 most
                  have hk2 := Keeps.setCell (F := fun k => k = jb) W4 (a := ⟨jb, 2, none⟩) rfl (.int .i64 (most : Int))
                  have ho2 := HO9.out.keeps hk2 (fun k e _ hf => HN9.out (by rw [e, hf]))
                  refine ⟨rfl, .slice (some ⟨g8, o8, none⟩) most c8, ?_, HK9.out.step hk2 (fun j _ hf => .inl hf)⟩
                  have hln : (l1.drop d).length = most := by simp; omega
                  rw [hln]
                  exact hj2.jat (by rw [hln]; exact ho2) HN9.out (by omega)
                exact AllReadyK.nil
              exact AllReadyK.nil
            · have hb1 : decide (most < l0.length + 1) = false := no (by omega)
              have HKL := Lib.hid (show keepL most l1 = l1 by unfold keepL; rw [show l1.length - most = 0 by omega]; rfl)
              go_wp2
              (refine wp_region_grow (by kernel_rfl) (by kernel_rfl) ?_; (repeat (go_big_quiet_step (fail))); refine wpQuiet_nil ?_; intro _ hw'; obtain ⟨gq, hw''⟩ := hw'; subst hw'')
              go_wp2
              go_end0
              refine pushJ_no ?_
              rw [hl1]
              rw [HKL.out]
              have hj2 := HJ.out.set2 l1.length (Nat.le_refl _)
              have hk2 := Keeps.setCell (F := fun k => k = jb) W2 (a := ⟨jb, 2, none⟩) rfl (.int .i64 ((l1.length : Nat) : Int))
              rw [hcast] at hj2 hk2
              exact ⟨rfl, _, hj2.below (grow_below _ _), (HK.out.step hk2 (fun j _ hf => .inl hf)).trans (Keeps.of_below (grow_below _ _))⟩
          exact AllReadyK.nil
        exact AllReadyK.nil
      exact AllReadyK.nil
    | true =>
      go_wp2
      clear HB1
      refine wp_region_keyed (fun W => (W.cell? ⟨jb, 1, none⟩ = some (.slice (some ⟨ga, oa, none⟩) l0.length l0.length) ∧ W.cell? ⟨jb, 2, none⟩ = some (.int .i64 l0.length)) ∧ (W.cell? ⟨xb, 0, none⟩ = some (.int .i64 z.ed.pos) ∧ W.cell? ⟨xb, 1, none⟩ = some (.string (B z.ed.del)) ∧ W.cell? ⟨xb, 2, none⟩ = some (.string (B z.ed.ins)) ∧ W.cell? ⟨xb, 3, none⟩ = some (.int .i64 z.ahead) ∧ W.cell? ⟨xb, 4, none⟩ = some (.int .i64 z.behind))) [21] (by kernel_rfl) ?_
      have HC := Lib.hid (HC.out.below (below_drew (Below.refl _ _)))
      have HX := Lib.hid (HX.out.below (below_drew (Below.refl _ _)))
      have HO5 := Lib.hid (HO5.out.below (below_drew (Below.refl _ _)))
      have HK := Lib.hid (HK.out.trans (Keeps.of_below (below_drew (Below.refl _ _))))
      have hDs : b0 ≤ wc.drew.heap.size := hbw
      generalize wc.drew = D at *
      refine wpAnyK_take (i := 0) (v := ?v0_1e) rfl (by kernel_rfl) (by kernel_rfl) (by kernel_rfl) (by kernel_rfl) (fun _ _ _ h => h) (Or.inl ⟨by rfl, ?y0_1e⟩) (fun _ => ⟨⟨HC.out.c1, HC.out.c2⟩, HX.out.c0, HX.out.c1, HX.out.c2, HX.out.c3, HX.out.c4⟩) ?r0_1e
      case y0_1e =>
        intro w hSw
        go_simp
        try with_reducible rfl
      try simp only [Act.put, List.setIfInBounds_toArray, List.set_cons_zero, List.set_cons_succ]
      refine wpAnyK_take (i := 1) (v := ?v1_2e) rfl (by kernel_rfl) (by kernel_rfl) (by kernel_rfl) (by kernel_rfl) (fun _ _ _ h => h) (Or.inl ⟨by rfl, ?y1_2e⟩) (fun _ => ⟨⟨HC.out.c1, HC.out.c2⟩, HX.out.c0, HX.out.c1, HX.out.c2, HX.out.c3, HX.out.c4⟩) ?r1_2e
      case y1_2e =>
        intro w hSw
        go_simp
        try with_reducible rfl
      try simp only [Act.put, List.setIfInBounds_toArray, List.set_cons_zero, List.set_cons_succ]
      refine wpAnyK_take (i := 2) (v := ?v2_3e) rfl (by kernel_rfl) (by kernel_rfl) (by kernel_rfl) (by kernel_rfl) (fun _ _ _ h => h) (Or.inl ⟨by rfl, ?y2_3e⟩) (fun _ => ⟨⟨HC.out.c1, HC.out.c2⟩, HX.out.c0, HX.out.c1, HX.out.c2, HX.out.c3, HX.out.c4⟩) ?r2_3e
      case y2_3e =>
        intro w hSw
        go_simp
        try with_reducible rfl
      try simp only [Act.put, List.setIfInBounds_toArray, List.set_cons_zero, List.set_cons_succ]
      refine wpAnyK_take (i := 3) (v := ?v3_4e) rfl (by kernel_rfl) (by kernel_rfl) (by kernel_rfl) (by kernel_rfl) (fun _ _ _ h => h) (Or.inl ⟨by rfl, ?y3_4e⟩) (fun _ => ⟨⟨HC.out.c1, HC.out.c2⟩, HX.out.c0, HX.out.c1, HX.out.c2, HX.out.c3, HX.out.c4⟩) ?r3_4e
      case y3_4e =>
        intro w hSw
        go_simp
        try with_reducible rfl
      try simp only [Act.put, List.setIfInBounds_toArray, List.set_cons_zero, List.set_cons_succ]
      refine wpAnyK_load (i := 4) [15, 18, 19, 20, 21] (v := ?v4_5e) rfl (by kernel_rfl) (by kernel_rfl) (by kernel_rfl) (by kernel_rfl) (by kernel_rfl) (fun _ _ _ h => h) (Or.inl ⟨by rfl, ?y4_5e⟩) (fun _ => ⟨⟨HC.out.c1, HC.out.c2⟩, HX.out.c0, HX.out.c1, HX.out.c2, HX.out.c3, HX.out.c4⟩) ?r4_5e
      case y4_5e =>
        intro w hSw
        (try dsimp only at hSw)
        go_split_ands
        go_simp
        try with_reducible rfl
      try simp only [Act.put, List.setIfInBounds_toArray, List.set_cons_zero, List.set_cons_succ]
      refine wpAnyK_take (i := 5) (v := ?v5_6e) rfl (by kernel_rfl) (by kernel_rfl) (by kernel_rfl) (by kernel_rfl) (fun _ _ _ h => h) (Or.inl ⟨by rfl, ?y5_6e⟩) (fun _ => ⟨⟨HC.out.c1, HC.out.c2⟩, HX.out.c0, HX.out.c1, HX.out.c2, HX.out.c3, HX.out.c4⟩) ?r5_6e
      case y5_6e =>
        intro w hSw
        go_simp
        try with_reducible rfl
      try simp only [Act.put, List.setIfInBounds_toArray, List.set_cons_zero, List.set_cons_succ]
      refine wpAnyK_take (i := 6) (v := ?v6_7e) rfl (by kernel_rfl) (by kernel_rfl) (by kernel_rfl) (by kernel_rfl) (fun _ _ _ h => h) (Or.inl ⟨by rfl, ?y6_7e⟩) (fun _ => ⟨⟨HC.out.c1, HC.out.c2⟩, HX.out.c0, HX.out.c1, HX.out.c2, HX.out.c3, HX.out.c4⟩) ?r6_7e
      case y6_7e =>
        intro w hSw
        go_simp
        try with_reducible rfl
      try simp only [Act.put, List.setIfInBounds_toArray, List.set_cons_zero, List.set_cons_succ]
      refine wpAnyK_take (i := 7) (v := ?v7_8e) rfl (by kernel_rfl) (by kernel_rfl) (by kernel_rfl) (by kernel_rfl) (fun _ _ _ h => h) (Or.inl ⟨by rfl, ?y7_8e⟩) (fun _ => ⟨⟨HC.out.c1, HC.out.c2⟩, HX.out.c0, HX.out.c1, HX.out.c2, HX.out.c3, HX.out.c4⟩) ?r7_8e
      case y7_8e =>
        intro w hSw
        go_simp
        try with_reducible rfl
      try simp only [Act.put, List.setIfInBounds_toArray, List.set_cons_zero, List.set_cons_succ]
      refine wpAnyK_load (i := 8) [9, 15, 18, 19, 20, 21] (v := ?v8_9e) rfl (by kernel_rfl) (by kernel_rfl) (by kernel_rfl) (by kernel_rfl) (by kernel_rfl) (fun _ _ _ h => h) (Or.inl ⟨by rfl, ?y8_9e⟩) (fun _ => ⟨⟨HC.out.c1, HC.out.c2⟩, HX.out.c0, HX.out.c1, HX.out.c2, HX.out.c3, HX.out.c4⟩) ?r8_9e
      case y8_9e =>
        intro w hSw
        (try dsimp only at hSw)
        go_split_ands
        go_simp
        try with_reducible rfl
      try simp only [Act.put, List.setIfInBounds_toArray, List.set_cons_zero, List.set_cons_succ]
      refine wpAnyK_take (i := 9) (v := ?v9_10e) rfl (by kernel_rfl) (by kernel_rfl) (by kernel_rfl) (by kernel_rfl) (fun _ _ _ h => h) (Or.inl ⟨by rfl, ?y9_10e⟩) (fun _ => ⟨⟨HC.out.c1, HC.out.c2⟩, HX.out.c0, HX.out.c1, HX.out.c2, HX.out.c3, HX.out.c4⟩) ?r9_10e
      case y9_10e =>
        intro w hSw
        go_simp
        try with_reducible rfl
      try simp only [Act.put, List.setIfInBounds_toArray, List.set_cons_zero, List.set_cons_succ]
      refine wpAnyK_take (i := 10) (v := ?v10_11e) rfl (by kernel_rfl) (by kernel_rfl) (by kernel_rfl) (by kernel_rfl) (fun _ _ _ h => h) (Or.inl ⟨by rfl, ?y10_11e⟩) (fun _ => ⟨⟨HC.out.c1, HC.out.c2⟩, HX.out.c0, HX.out.c1, HX.out.c2, HX.out.c3, HX.out.c4⟩) ?r10_11e
      case y10_11e =>
        intro w hSw
        go_simp
        try with_reducible rfl
      try simp only [Act.put, List.setIfInBounds_toArray, List.set_cons_zero, List.set_cons_succ]
      refine wpAnyK_take (i := 11) (v := ?v11_12e) rfl (by kernel_rfl) (by kernel_rfl) (by kernel_rfl) (by kernel_rfl) (fun _ _ _ h => h) (Or.inl ⟨by rfl, ?y11_12e⟩) (fun _ => ⟨⟨HC.out.c1, HC.out.c2⟩, HX.out.c0, HX.out.c1, HX.out.c2, HX.out.c3, HX.out.c4⟩) ?r11_12e
      case y11_12e =>
        intro w hSw
        go_simp
        try with_reducible rfl
      try simp only [Act.put, List.setIfInBounds_toArray, List.set_cons_zero, List.set_cons_succ]
      refine wpAnyK_take (i := 12) (v := ?v12_13e) rfl (by kernel_rfl) (by kernel_rfl) (by kernel_rfl) (by kernel_rfl) (fun _ _ _ h => h) (Or.inl ⟨by rfl, ?y12_13e⟩) (fun _ => ⟨⟨HC.out.c1, HC.out.c2⟩, HX.out.c0, HX.out.c1, HX.out.c2, HX.out.c3, HX.out.c4⟩) ?r12_13e
      case y12_13e =>
        intro w hSw
        go_simp
        try with_reducible rfl
      try simp only [Act.put, List.setIfInBounds_toArray, List.set_cons_zero, List.set_cons_succ]
      refine wpAnyK_load (i := 13) [14, 15, 18, 19, 20, 21] (v := ?v13_14e) rfl (by kernel_rfl) (by kernel_rfl) (by kernel_rfl) (by kernel_rfl) (by kernel_rfl) (fun _ _ _ h => h) (Or.inl ⟨by rfl, ?y13_14e⟩) (fun _ => ⟨⟨HC.out.c1, HC.out.c2⟩, HX.out.c0, HX.out.c1, HX.out.c2, HX.out.c3, HX.out.c4⟩) ?r13_14e
      case y13_14e =>
        intro w hSw
        (try dsimp only at hSw)
        go_split_ands
        go_simp
        try with_reducible rfl
      try simp only [Act.put, List.setIfInBounds_toArray, List.set_cons_zero, List.set_cons_succ]
      refine wpAnyK_take (i := 14) (v := ?v14_15e) rfl (by kernel_rfl) (by kernel_rfl) (by kernel_rfl) (by kernel_rfl) (fun _ _ _ h => h) (Or.inl ⟨by rfl, ?y14_15e⟩) (fun _ => ⟨⟨HC.out.c1, HC.out.c2⟩, HX.out.c0, HX.out.c1, HX.out.c2, HX.out.c3, HX.out.c4⟩) ?r14_15e
      case y14_15e =>
        intro w hSw
        go_simp
        try with_reducible rfl
      try simp only [Act.put, List.setIfInBounds_toArray, List.set_cons_zero, List.set_cons_succ]
      refine wpAnyK_take (i := 15) (v := ?v15_16e) rfl (by kernel_rfl) (by kernel_rfl) (by kernel_rfl) (by kernel_rfl) (fun _ _ _ h => h) (Or.inl ⟨by rfl, ?y15_16e⟩) (fun _ => ⟨⟨HC.out.c1, HC.out.c2⟩, HX.out.c0, HX.out.c1, HX.out.c2, HX.out.c3, HX.out.c4⟩) ?r15_16e
      case y15_16e =>
        intro w hSw
        go_simp
        try with_reducible rfl
      try simp only [Act.put, List.setIfInBounds_toArray, List.set_cons_zero, List.set_cons_succ]
      refine wpAnyK_load (i := 16) [17, 18, 19, 20, 21] (v := ?v16_17e) rfl (by kernel_rfl) (by kernel_rfl) (by kernel_rfl) (by kernel_rfl) (by kernel_rfl) (fun _ _ _ h => h) (Or.inl ⟨by rfl, ?y16_17e⟩) (fun _ => ⟨⟨HC.out.c1, HC.out.c2⟩, HX.out.c0, HX.out.c1, HX.out.c2, HX.out.c3, HX.out.c4⟩) ?r16_17e
      case y16_17e =>
        intro w hSw
        (try dsimp only at hSw)
        go_split_ands
        go_simp
        try with_reducible rfl
      try simp only [Act.put, List.setIfInBounds_toArray, List.set_cons_zero, List.set_cons_succ]
      refine wpAnyK_ready (rs := [17]) (by kernel_rfl) (by simp) ?_
      refine AllReadyK.cons (i := 17) rfl (fun K hK => ?_) ?_
      · go_simp
        have HC := Lib.hid (HC.out.below (below_alloc (Below.refl _ _) (.cells #[.int .i64 z.ed.pos, .string (B z.ed.del), .string (B z.ed.ins), .int .i64 z.ahead, .int .i64 z.behind] 89)))
        have HX := Lib.hid (HX.out.below (below_alloc (Below.refl _ _) (.cells #[.int .i64 z.ed.pos, .string (B z.ed.del), .string (B z.ed.ins), .int .i64 z.ahead, .int .i64 z.behind] 89)))
        have HK := Lib.hid (HK.out.trans (Keeps.of_below (below_alloc (Below.refl _ _) (.cells #[.int .i64 z.ed.pos, .string (B z.ed.del), .string (B z.ed.ins), .int .i64 z.ahead, .int .i64 z.behind] 89))))
        refine hK.out _ _ (fun _ => ⟨⟨HC.out.c1, HC.out.c2⟩, HX.out.c0, HX.out.c1, HX.out.c2, HX.out.c3, HX.out.c4⟩) ?_
        clear hK K
        try simp only [Act.put, List.setIfInBounds_toArray, List.set_cons_zero, List.set_cons_succ]
        refine wpAnyK_ready (rs := [18]) (by kernel_rfl) (by simp) ?_
        refine AllReadyK.cons (i := 18) rfl (fun K hK => ?_) ?_
        · have hszk := HK.out.size
          (refine step_append_src _ rfl (.tmp 64) (.tmp 66) _ rfl b0 89 i5 _ 5 56 Try.underlying87 hi5 hz50 hz51 hz52 rfl (by decide) _ q (l1.flatMap Stp.cells) rfl (HO5.out.below (below_alloc (Below.refl _ _) _)) _ 1 (Stp.cells z) rfl rfl (by refine src_one _ _ _ _ _ ?_; first | rfl | (simp; done) | omega | (simp; omega)) (by simp [Stp.cells, Value.oneCell']) (by unfold maxLen; omega) (by omega) (by first | (simp; done) | omega | (simp; omega)) ?_; intro v18 w18 hown18 hg18 hat18 hty18; have HTY18 := Lib.hid hty18; clear hty18)
          have hlt7 := HC.out.lt
          have HC := Lib.hid (HC.out.keeps hg18 (fun hf => HN.out hf.1))
          have HX := Lib.hid (HX.out.keeps hg18 (fun hf => by have e2 : ga = xb := Option.some.inj hf.1; omega))
          have HK := Lib.hid (HK.out.step hg18 (fun j _ hf => .inr ⟨HLV.out j hf.1, hf.2⟩))
          have hsn : Own w18 b0 5 v18 (l1.length + 1) (l1.flatMap Stp.cells ++ Stp.cells z) := by rw [HLQ.out]; exact hown18
          have HO7 := Lib.hid (own_snocS hsn)
          have HAT : Hid (∀ k, v18.ownBlock = some k → (Value.slice (some ⟨ga, oa, none⟩) l.length c).ownBlock = some k ∨ rb ≤ k) := by
            intro k e
            rcases hat18 with e1 | e1
            · exact .inl (HLV.out k (e1 ▸ e))
            · exact .inr (by have := e1 _ e; omega)
          have HN7 : Hid (v18.ownBlock ≠ some jb) := by
            intro e
            rcases hat18 with e1 | e1
            · exact HN.out (e1 ▸ e)
            · have := e1 _ e; omega
          obtain ⟨g7, o7, c7, rfl, -, -, -, -⟩ := hown18.form
          clear hown18 hg18 hat18 hsn
          refine hK.out _ _ (fun _ => ⟨⟨HC.out.c1, HC.out.c2⟩, HX.out.c0, HX.out.c1, HX.out.c2, HX.out.c3, HX.out.c4⟩) ?_
          clear hK K
          try simp only [Act.put, List.setIfInBounds_toArray, List.set_cons_zero, List.set_cons_succ]
          refine wpAnyK_take (i := 19) (v := ?v19_18e) rfl (by kernel_rfl) (by kernel_rfl) (by kernel_rfl) (by kernel_rfl) (fun _ _ _ h => h) (Or.inl ⟨by rfl, ?y19_18e⟩) (fun _ => ⟨⟨HC.out.c1, HC.out.c2⟩, HX.out.c0, HX.out.c1, HX.out.c2, HX.out.c3, HX.out.c4⟩) ?r19_18e
          case y19_18e =>
            intro w hSw
            go_simp
            try with_reducible rfl
          try simp only [Act.put, List.setIfInBounds_toArray, List.set_cons_zero, List.set_cons_succ]
          refine wpAnyK_take (i := 20) (v := ?v20_19e) rfl (by kernel_rfl) (by kernel_rfl) (by kernel_rfl) (by kernel_rfl) (fun _ _ _ h => h) (Or.inl ⟨by rfl, ?y20_19e⟩) (fun _ => ⟨⟨HC.out.c1, HC.out.c2⟩, HX.out.c0, HX.out.c1, HX.out.c2, HX.out.c3, HX.out.c4⟩) ?r20_19e
          case y20_19e =>
            intro w hSw
            go_simp
            try with_reducible rfl
          try simp only [Act.put, List.setIfInBounds_toArray, List.set_cons_zero, List.set_cons_succ]
          refine wpAnyK_ready (rs := [21]) (by kernel_rfl) (by simp) ?_
          refine AllReadyK.cons (i := 21) rfl (fun K hK => ?_) ?_
          · have c1 := HC.out.c1
            have f0 := HC.out.f0
            go_simp
            refine hK.out _ _ (fun h => Bool.noConfusion ((show unl _ _ = false by kernel_rfl).symm.trans h)) ?_
            clear hK K
            try simp only [Act.put, List.setIfInBounds_toArray, List.set_cons_zero, List.set_cons_succ]
            refine wpAnyK_done (by kernel_rfl) ?_ _
            have HJ : Hid (JAt (w18.setCell ⟨jb, 1, none⟩ (.slice (some ⟨g7, o7, none⟩) (q + 1) c7)) b0 jb (.slice (some ⟨g7, o7, none⟩) (q + 1) c7) most (l1 ++ [z]) l0.length) := JC.jat (HC.out.set1 (.slice (some ⟨g7, o7, none⟩) (q + 1) c7)) (HO7.out.keeps (Keeps.setCell (F := fun k => k = jb) w18 (a := ⟨jb, 1, none⟩) rfl (.slice (some ⟨g7, o7, none⟩) (q + 1) c7)) (fun k e _ hf => HN7.out (by rw [e, hf]))) HN7.out (by have := HPQ.out; have := HLQ.out; simp; omega)
            have HK := Lib.hid (HK.out.step (Keeps.setCell (F := fun k => k = jb) w18 (a := ⟨jb, 1, none⟩) rfl (.slice (some ⟨g7, o7, none⟩) (q + 1) c7)) (fun j _ hf => .inl hf))
            go_wp2
            go_end0
            exact pushJ_yes ⟨rfl, _, HJ.out, HK.out, fun k e => (HAT.out k e).imp id (fun e => by omega)⟩
          exact AllReadyK.nil
        exact AllReadyK.nil
      exact AllReadyK.nil
end Go.Proofs.Ytkinjjgaecbogaa
