/-
  The walks of layer 26 (fields): the maker's function end (printed by gen_fields5.py). Conditions: at most 2^33 fields.
-/
import Derived.Test.YtkinjjgaecbogaaFields4
namespace Go.Proofs.Ytkinjjgaecbogaa
open Go.ChangeShapes Go.WideShapes Go.Deep Go.RowKit
set_option maxRecDepth 100000
set_option linter.unusedSimpArgs false
theorem own_snocF {w : World} {b0 : Nat} {v : Value} {l : List Fd} {x y : List UInt8} (h : Own w b0 2 v (l.length + 1) (l.flatMap Fd.cells ++ [.string (B x), .string (B y)])) : Own w b0 2 v (l ++ [(⟨x, y⟩ : Fd)]).length ((l ++ [(⟨x, y⟩ : Fd)]).flatMap Fd.cells) := by
  rw [List.length_append, List.flatMap_append]
  exact h
/-- Within end. -/
structure EndSt (w W : World) (b0 mb : Nat) (lv L tv pv : Value) (l : List Fd) (text pat : List UInt8) (begun mark : Bool) : Prop where
  c : MkC W b0 mb lv tv pv begun mark
  o : MkO W b0 L tv pv l text pat
  k : KeepsM b0 w W
theorem EndSt.below {w W W' : World} {b0 mb : Nat} {lv L tv pv : Value} {l : List Fd} {text pat : List UInt8} {begun mark : Bool} (h : EndSt w W b0 mb lv L tv pv l text pat begun mark) (hb : Below W.heap.size W W') : EndSt w W' b0 mb lv L tv pv l text pat begun mark :=
  ⟨h.c.below hb, h.o.below hb, h.k.below hb⟩
theorem EndSt.appL {w W W' : World} {b0 mb : Nat} {lv L tv pv v' : Value} {l l' : List Fd} {text pat : List UInt8} {begun mark : Bool} (h : EndSt w W b0 mb lv L tv pv l text pat begun mark) (ho : Own W' b0 2 v' l'.length (l'.flatMap Fd.cells)) (hk : Keeps (fun k => L.ownBlock = some k ∧ b0 ≤ k) W W')
    (hat : v'.ownBlock = L.ownBlock ∨ ∀ k, v'.ownBlock = some k → W.heap.size ≤ k) (hty : ∀ k, v'.ownBlock = some k → W.heap.size ≤ k → tyOf W' k = some 54) : EndSt w W' b0 mb lv v' tv pv l' text pat begun mark :=
  ⟨h.c.block (hk.block mb h.c.lt (fun hf => by have := h.o.tl mb hf.1; rw [h.c.ty] at this; revert this; decide)), h.o.appL ho hk hat hty,
    h.k.step hk (fun k hf _ => ⟨hf.2, .inr (.inr (h.o.tl k hf.1))⟩)⟩
theorem EndSt.set0 {w W : World} {b0 mb : Nat} {lv L tv pv : Value} {l : List Fd} {text pat : List UInt8} {begun mark : Bool} (h : EndSt w W b0 mb lv L tv pv l text pat begun mark) (x : Value) : EndSt w (W.setCell ⟨mb, 0, none⟩ x) b0 mb x L tv pv l text pat begun mark :=
  ⟨h.c.set0 x, h.o.set h.c.ty 0 x, h.k.set h.c.ge h.c.ty 0 x⟩
structure EndPost (b0 mb : Nat) (m : Mk) (w : World) (e : Ending) (w' : World) : Prop where
  e : e = .returned (.tuple #[])
  h : ∃ lv tv pv, MkAt w' b0 mb lv tv pv m ∧ KeepsM b0 w w'
theorem endPost_of {b0 mb : Nat} {m : Mk} {w w' : World} {e : Ending} (h : e = .returned (.tuple #[]) ∧ ∃ lv, MkAt w' b0 mb lv (.slice none 0 0) (.slice none 0 0) m ∧ KeepsM b0 w w') : EndPost b0 mb m w e w' := ⟨h.1, by obtain ⟨lv, h⟩ := h.2; exact ⟨lv, _, _, h⟩⟩
theorem EndSt.ended {w W : World} {b0 mb : Nat} {L tv pv : Value} {m : Mk} (h : EndSt w W b0 mb L L tv pv (m.l ++ [⟨m.text, m.pat⟩]) m.text m.pat m.begun m.mark) :
    MkAt (((W.setCell ⟨mb, 1, none⟩ (.slice none 0 0)).setCell ⟨mb, 2, none⟩ (.slice none 0 0)).setCell ⟨mb, 3, none⟩ (.bool false)) b0 mb L (.slice none 0 0) (.slice none 0 0) (endM m) ∧
      KeepsM b0 w (((W.setCell ⟨mb, 1, none⟩ (.slice none 0 0)).setCell ⟨mb, 2, none⟩ (.slice none 0 0)).setCell ⟨mb, 3, none⟩ (.bool false)) := by
  have o := ((h.o.set h.c.ty 1 (.slice none 0 0)).set (h.c.set1 (.slice none 0 0)).ty 2 (.slice none 0 0)).set ((h.c.set1 (.slice none 0 0)).set2 (.slice none 0 0)).ty 3 (.bool false)
  refine ⟨⟨((h.c.set1 (.slice none 0 0)).set2 (.slice none 0 0)).set3 false, ⟨o.ol, Own.nil _ _ _, Own.nil _ _ _, o.tl, ?_, ?_, ?_⟩⟩, ((h.k.set h.c.ge h.c.ty 1 _).set h.c.ge (h.c.set1 (.slice none 0 0)).ty 2 _).set h.c.ge ((h.c.set1 (.slice none 0 0)).set2 (.slice none 0 0)).ty 3 _⟩
  · intro k e; cases e
  · intro k e; cases e
  · intro k e; cases e
set_option maxHeartbeats 2000000 in
theorem end_any (w : World) (b0 mb : Nat) (lv tv pv : Value) (m : Mk) (h : MkAt w b0 mb lv tv pv m) (hl : m.l.length ≤ 8589934592) :
    Calls Try.prog 72 #[.pointer (some ⟨mb, 0, none⟩)] w (EndPost b0 mb (endM m) w) := by
  obtain ⟨i2, hi2, hz20, hz21, hz22⟩ := info_parts info_fd
  have hlt := h.c.lt
  haveI : Old w mb := ⟨hlt⟩
  have hc0 := h.c.c0
  have hc1 := h.c.c1
  have hc2 := h.c.c2
  have hf := h.c.f0
  have HGE := Lib.hid h.c.ge
  have hbw : b0 ≤ w.heap.size := Nat.le_of_lt (Nat.lt_of_le_of_lt h.c.ge hlt)
  have HA : Hid (EndSt w w b0 mb lv lv tv pv m.l m.text m.pat m.begun m.mark) := ⟨h.c, h.o, KeepsM.refl _ _⟩
  clear h
  go_enter Try.func72, Try.ntmps72
  refine wp_seq_k fun K hK => ?_
  refine wp_region_keyed (fun W => W.cell? ⟨mb, 0, none⟩ = some lv ∧ W.cell? ⟨mb, 1, none⟩ = some tv ∧ W.cell? ⟨mb, 2, none⟩ = some pv ∧ Own W b0 1 tv m.text.length (m.text.flatMap byteC) ∧ Own W b0 1 pv m.pat.length (m.pat.flatMap byteC)) [20] (by kernel_rfl) ?_
  obtain ⟨D, hD⟩ : ∃ D, D = w.drew := ⟨_, rfl⟩
  have HA := Lib.hid (HA.out.below (below_drew (Below.refl _ _)))
  have hDs : D.heap.size = w.heap.size := by rw [hD]; rfl
  rw [← hD] at HA ⊢
  clear hD
  refine wpAnyK_take (i := 0) (v := ?v0_1) rfl (by kernel_rfl) (by kernel_rfl) (by kernel_rfl) (by kernel_rfl) (fun _ _ _ h => h) (Or.inl ⟨by rfl, ?y0_1⟩) (fun _ => ⟨HA.out.c.c0, HA.out.c.c1, HA.out.c.c2, HA.out.o.ot, HA.out.o.op⟩) ?r0_1
  case y0_1 =>
    intro w hSw
    go_simp
    try with_reducible rfl
  try simp only [Act.put, List.setIfInBounds_toArray, List.set_cons_zero, List.set_cons_succ]
  refine wpAnyK_take (i := 1) (v := ?v1_2) rfl (by kernel_rfl) (by kernel_rfl) (by kernel_rfl) (by kernel_rfl) (fun _ _ _ h => h) (Or.inl ⟨by rfl, ?y1_2⟩) (fun _ => ⟨HA.out.c.c0, HA.out.c.c1, HA.out.c.c2, HA.out.o.ot, HA.out.o.op⟩) ?r1_2
  case y1_2 =>
    intro w hSw
    go_simp
    try with_reducible rfl
  try simp only [Act.put, List.setIfInBounds_toArray, List.set_cons_zero, List.set_cons_succ]
  refine wpAnyK_take (i := 2) (v := ?v2_3) rfl (by kernel_rfl) (by kernel_rfl) (by kernel_rfl) (by kernel_rfl) (fun _ _ _ h => h) (Or.inl ⟨by rfl, ?y2_3⟩) (fun _ => ⟨HA.out.c.c0, HA.out.c.c1, HA.out.c.c2, HA.out.o.ot, HA.out.o.op⟩) ?r2_3
  case y2_3 =>
    intro w hSw
    go_simp
    try with_reducible rfl
  try simp only [Act.put, List.setIfInBounds_toArray, List.set_cons_zero, List.set_cons_succ]
  refine wpAnyK_take (i := 3) (v := ?v3_4) rfl (by kernel_rfl) (by kernel_rfl) (by kernel_rfl) (by kernel_rfl) (fun _ _ _ h => h) (Or.inl ⟨by rfl, ?y3_4⟩) (fun _ => ⟨HA.out.c.c0, HA.out.c.c1, HA.out.c.c2, HA.out.o.ot, HA.out.o.op⟩) ?r3_4
  case y3_4 =>
    intro w hSw
    go_simp
    try with_reducible rfl
  try simp only [Act.put, List.setIfInBounds_toArray, List.set_cons_zero, List.set_cons_succ]
  refine wpAnyK_load (i := 4) [17, 18, 19, 20] (v := ?v4_5) rfl (by kernel_rfl) (by kernel_rfl) (by kernel_rfl) (by kernel_rfl) (by kernel_rfl) (fun _ _ _ h => h) (Or.inl ⟨by rfl, ?y4_5⟩) (fun _ => ⟨HA.out.c.c0, HA.out.c.c1, HA.out.c.c2, HA.out.o.ot, HA.out.o.op⟩) ?r4_5
  case y4_5 =>
    intro w hSw
    (try dsimp only at hSw)
    go_split_ands
    go_simp
    try with_reducible rfl
  try simp only [Act.put, List.setIfInBounds_toArray, List.set_cons_zero, List.set_cons_succ]
  refine wpAnyK_take (i := 5) (v := ?v5_6) rfl (by kernel_rfl) (by kernel_rfl) (by kernel_rfl) (by kernel_rfl) (fun _ _ _ h => h) (Or.inl ⟨by rfl, ?y5_6⟩) (fun _ => ⟨HA.out.c.c0, HA.out.c.c1, HA.out.c.c2, HA.out.o.ot, HA.out.o.op⟩) ?r5_6
  case y5_6 =>
    intro w hSw
    go_simp
    try with_reducible rfl
  try simp only [Act.put, List.setIfInBounds_toArray, List.set_cons_zero, List.set_cons_succ]
  refine wpAnyK_take (i := 6) (v := ?v6_7) rfl (by kernel_rfl) (by kernel_rfl) (by kernel_rfl) (by kernel_rfl) (fun _ _ _ h => h) (Or.inl ⟨by rfl, ?y6_7⟩) (fun _ => ⟨HA.out.c.c0, HA.out.c.c1, HA.out.c.c2, HA.out.o.ot, HA.out.o.op⟩) ?r6_7
  case y6_7 =>
    intro w hSw
    go_simp
    try with_reducible rfl
  try simp only [Act.put, List.setIfInBounds_toArray, List.set_cons_zero, List.set_cons_succ]
  refine wpAnyK_take (i := 7) (v := ?v7_8) rfl (by kernel_rfl) (by kernel_rfl) (by kernel_rfl) (by kernel_rfl) (fun _ _ _ h => h) (Or.inl ⟨by rfl, ?y7_8⟩) (fun _ => ⟨HA.out.c.c0, HA.out.c.c1, HA.out.c.c2, HA.out.o.ot, HA.out.o.op⟩) ?r7_8
  case y7_8 =>
    intro w hSw
    go_simp
    try with_reducible rfl
  try simp only [Act.put, List.setIfInBounds_toArray, List.set_cons_zero, List.set_cons_succ]
  refine wpAnyK_load (i := 8) [9, 15, 16, 17, 18, 19, 20] (v := ?v8_9) rfl (by kernel_rfl) (by kernel_rfl) (by kernel_rfl) (by kernel_rfl) (by kernel_rfl) (fun _ _ _ h => h) (Or.inl ⟨by rfl, ?y8_9⟩) (fun _ => ⟨HA.out.c.c0, HA.out.c.c1, HA.out.c.c2, HA.out.o.ot, HA.out.o.op⟩) ?r8_9
  case y8_9 =>
    intro w hSw
    (try dsimp only at hSw)
    go_split_ands
    go_simp
    try with_reducible rfl
  try simp only [Act.put, List.setIfInBounds_toArray, List.set_cons_zero, List.set_cons_succ]
  refine wpAnyK_load (i := 9) [15, 16, 17, 18, 19, 20] (v := ?v9_10) rfl (by kernel_rfl) (by kernel_rfl) (by kernel_rfl) (by kernel_rfl) (by kernel_rfl) (fun _ _ _ h => h) (Or.inl ⟨by rfl, ?y9_10⟩) (fun _ => ⟨HA.out.c.c0, HA.out.c.c1, HA.out.c.c2, HA.out.o.ot, HA.out.o.op⟩) ?r9_10
  case y9_10 =>
    intro w hSw
    (try dsimp only at hSw)
    have h := conv_own hSw.2.2.2.1 rfl
    go_simp
    try with_reducible rfl
  try simp only [Act.put, List.setIfInBounds_toArray, List.set_cons_zero, List.set_cons_succ]
  refine wpAnyK_take (i := 10) (v := ?v10_11) rfl (by kernel_rfl) (by kernel_rfl) (by kernel_rfl) (by kernel_rfl) (fun _ _ _ h => h) (Or.inl ⟨by rfl, ?y10_11⟩) (fun _ => ⟨HA.out.c.c0, HA.out.c.c1, HA.out.c.c2, HA.out.o.ot, HA.out.o.op⟩) ?r10_11
  case y10_11 =>
    intro w hSw
    go_simp
    try with_reducible rfl
  try simp only [Act.put, List.setIfInBounds_toArray, List.set_cons_zero, List.set_cons_succ]
  refine wpAnyK_take (i := 11) (v := ?v11_12) rfl (by kernel_rfl) (by kernel_rfl) (by kernel_rfl) (by kernel_rfl) (fun _ _ _ h => h) (Or.inl ⟨by rfl, ?y11_12⟩) (fun _ => ⟨HA.out.c.c0, HA.out.c.c1, HA.out.c.c2, HA.out.o.ot, HA.out.o.op⟩) ?r11_12
  case y11_12 =>
    intro w hSw
    go_simp
    try with_reducible rfl
  try simp only [Act.put, List.setIfInBounds_toArray, List.set_cons_zero, List.set_cons_succ]
  refine wpAnyK_take (i := 12) (v := ?v12_13) rfl (by kernel_rfl) (by kernel_rfl) (by kernel_rfl) (by kernel_rfl) (fun _ _ _ h => h) (Or.inl ⟨by rfl, ?y12_13⟩) (fun _ => ⟨HA.out.c.c0, HA.out.c.c1, HA.out.c.c2, HA.out.o.ot, HA.out.o.op⟩) ?r12_13
  case y12_13 =>
    intro w hSw
    go_simp
    try with_reducible rfl
  try simp only [Act.put, List.setIfInBounds_toArray, List.set_cons_zero, List.set_cons_succ]
  refine wpAnyK_load (i := 13) [14, 15, 16, 17, 18, 19, 20] (v := ?v13_14) rfl (by kernel_rfl) (by kernel_rfl) (by kernel_rfl) (by kernel_rfl) (by kernel_rfl) (fun _ _ _ h => h) (Or.inl ⟨by rfl, ?y13_14⟩) (fun _ => ⟨HA.out.c.c0, HA.out.c.c1, HA.out.c.c2, HA.out.o.ot, HA.out.o.op⟩) ?r13_14
  case y13_14 =>
    intro w hSw
    (try dsimp only at hSw)
    go_split_ands
    go_simp
    try with_reducible rfl
  try simp only [Act.put, List.setIfInBounds_toArray, List.set_cons_zero, List.set_cons_succ]
  refine wpAnyK_load (i := 14) [15, 16, 17, 18, 19, 20] (v := ?v14_15) rfl (by kernel_rfl) (by kernel_rfl) (by kernel_rfl) (by kernel_rfl) (by kernel_rfl) (fun _ _ _ h => h) (Or.inl ⟨by rfl, ?y14_15⟩) (fun _ => ⟨HA.out.c.c0, HA.out.c.c1, HA.out.c.c2, HA.out.o.ot, HA.out.o.op⟩) ?r14_15
  case y14_15 =>
    intro w hSw
    (try dsimp only at hSw)
    have h := conv_own hSw.2.2.2.2 rfl
    go_simp
    try with_reducible rfl
  try simp only [Act.put, List.setIfInBounds_toArray, List.set_cons_zero, List.set_cons_succ]
  refine wpAnyK_take (i := 15) (v := ?v15_16) rfl (by kernel_rfl) (by kernel_rfl) (by kernel_rfl) (by kernel_rfl) (fun _ _ _ h => h) (Or.inl ⟨by rfl, ?y15_16⟩) (fun _ => ⟨HA.out.c.c0, HA.out.c.c1, HA.out.c.c2, HA.out.o.ot, HA.out.o.op⟩) ?r15_16
  case y15_16 =>
    intro w hSw
    go_simp
    try with_reducible rfl
  try simp only [Act.put, List.setIfInBounds_toArray, List.set_cons_zero, List.set_cons_succ]
  refine wpAnyK_ready (rs := [16]) (by kernel_rfl) (by simp) ?_
  refine AllReadyK.cons (i := 16) rfl (fun K hK => ?_) ?_
  · go_simp
    have HA := Lib.hid (HA.out.below (below_alloc (Below.refl _ _) (.cells #[.string (B m.text), .string (B m.pat)] 54)))
    refine hK.out _ _ (fun _ => ⟨HA.out.c.c0, HA.out.c.c1, HA.out.c.c2, HA.out.o.ot, HA.out.o.op⟩) ?_
    clear hK K
    try simp only [Act.put, List.setIfInBounds_toArray, List.set_cons_zero, List.set_cons_succ]
    refine wpAnyK_ready (rs := [17]) (by kernel_rfl) (by simp) ?_
    refine AllReadyK.cons (i := 17) rfl (fun K hK => ?_) ?_
    · (refine step_append_src _ rfl (.tmp 6) (.tmp 18) _ rfl b0 54 i2 _ 2 32 Try.underlying47 hi2 hz20 hz21 hz22 rfl (by decide) _ m.l.length (m.l.flatMap Fd.cells) rfl (HA.out.o.ol) _ 1 [.string (B m.text), .string (B m.pat)] rfl rfl (by refine src_one _ _ _ _ _ ?_; first | rfl | (simp; done) | omega | (simp; omega)) (by simp [Value.oneCell']) (by unfold maxLen; omega) (by omega) (by first | (simp; done) | omega | (simp; omega)) ?_; intro v17 w17 hown17 hg17 hat17 hty17; have HTY17 := Lib.hid hty17; clear hty17)
      have HA := Lib.hid (HA.out.appL (own_snocF hown17) hg17 hat17 HTY17.out)
      obtain ⟨g17, o17, c17, rfl, -, -, -, -⟩ := hown17.form
      refine hK.out _ _ (fun _ => ⟨HA.out.c.c0, HA.out.c.c1, HA.out.c.c2, HA.out.o.ot, HA.out.o.op⟩) ?_
      clear hK K
      try simp only [Act.put, List.setIfInBounds_toArray, List.set_cons_zero, List.set_cons_succ]
      refine wpAnyK_take (i := 18) (v := ?v18_17) rfl (by kernel_rfl) (by kernel_rfl) (by kernel_rfl) (by kernel_rfl) (fun _ _ _ h => h) (Or.inl ⟨by rfl, ?y18_17⟩) (fun _ => ⟨HA.out.c.c0, HA.out.c.c1, HA.out.c.c2, HA.out.o.ot, HA.out.o.op⟩) ?r18_17
      case y18_17 =>
        intro w hSw
        go_simp
        try with_reducible rfl
      try simp only [Act.put, List.setIfInBounds_toArray, List.set_cons_zero, List.set_cons_succ]
      refine wpAnyK_take (i := 19) (v := ?v19_18) rfl (by kernel_rfl) (by kernel_rfl) (by kernel_rfl) (by kernel_rfl) (fun _ _ _ h => h) (Or.inl ⟨by rfl, ?y19_18⟩) (fun _ => ⟨HA.out.c.c0, HA.out.c.c1, HA.out.c.c2, HA.out.o.ot, HA.out.o.op⟩) ?r19_18
      case y19_18 =>
        intro w hSw
        go_simp
        try with_reducible rfl
      try simp only [Act.put, List.setIfInBounds_toArray, List.set_cons_zero, List.set_cons_succ]
      refine wpAnyK_ready (rs := [20]) (by kernel_rfl) (by simp) ?_
      refine AllReadyK.cons (i := 20) rfl (fun K hK => ?_) ?_
      · have hc0 := HA.out.c.c0
        have hf0 := HA.out.c.f0
        go_simp
        refine hK.out _ _ (fun h => Bool.noConfusion ((show unl _ _ = false by kernel_rfl).symm.trans h)) ?_
        clear hK K
        try simp only [Act.put, List.setIfInBounds_toArray, List.set_cons_zero, List.set_cons_succ]
        refine wpAnyK_done (by kernel_rfl) ?_ _
        have HA := Lib.hid (HA.out.set0 (.slice (some ⟨g17, o17, none⟩) (m.l.length + 1) c17))
        obtain ⟨W, hW⟩ : ∃ W, W = w17.setCell ⟨mb, 0, none⟩ (.slice (some ⟨g17, o17, none⟩) (m.l.length + 1) c17) := ⟨_, rfl⟩
        rw [← hW] at HA ⊢
        clear hW
        have hc1 := HA.out.c.c1
        have hc2 := HA.out.c.c2
        have hc3 := HA.out.c.c3
        have hf0 := HA.out.c.f0
        haveI : Old W mb := ⟨HA.out.c.lt⟩
        go_wp2
        go_end0
        exact endPost_of ⟨rfl, _, HA.out.ended⟩
      exact AllReadyK.nil
    exact AllReadyK.nil
  exact AllReadyK.nil

end Go.Proofs.Ytkinjjgaecbogaa
