/-
  The walks of layer 2 (undo), on: a ring's Turn (printed by gen_turn.py). Conditions: at most 20 texts.
-/
import Derived.Test.YtkinjjgaecbogaaRing2
namespace Go.Proofs.Ytkinjjgaecbogaa
open Go.ChangeShapes Go.WideShapes Go.Deep Go.RowKit
set_option maxRecDepth 100000
set_option linter.unusedSimpArgs false
theorem own_one (w : World) (b0 : Nat) (v : Value) (t : TypeId) (hb : b0 ≤ w.heap.size) : Own (w.alloc (.cells #[v] t)) b0 1 (.slice (some ⟨w.heap.size, 0, none⟩) 1 1) 1 [v] := by
  refine ⟨rfl, .inr ⟨w.heap.size, 0, 1, rfl, hb, by simp, Nat.le_refl _, by unfold maxLen; omega, fun j hj => ?_, fun j u hj => ?_⟩⟩
  · obtain rfl : j = 0 := by omega
    exact ⟨by go_simp, by simp [go_sem]⟩
  · cases j with
    | zero => simp at hj; subst hj; go_simp
    | succ j => simp at hj
theorem sl_init {w : World} {b0 g off c : Nat} {init : List (List UInt8)} {t : List UInt8} (h : Own w b0 1 (.slice (some ⟨g, off, none⟩) (init.length + 1) c) (init ++ [t]).length ((init ++ [t]).flatMap strC)) : Sl w strC 1 (.slice (some ⟨g, off, none⟩) init.length c) init := by
  have hln : (init ++ [t]).length = init.length + 1 := by simp
  obtain ⟨A, c', e, h1, h2, h3, h4⟩ := h.sl strC_len rfl
  obtain ⟨b, o, e2, hb, hc⟩ := h4 (by omega)
  subst e2
  injection e with e1 _ e3
  injection e1 with e1
  cases e1
  subst e3
  refine ⟨_, c, rfl, by omega, h2, fun h => (by cases h), fun _ => ⟨g, off, rfl, hb, fun k x hk j u hj => hc k x ?_ j u hj⟩⟩
  rw [List.getElem?_append_left (List.getElem?_eq_some_iff.1 hk).1]
  exact hk
theorem RAt.keeps {F : Nat → Prop} {w w' : World} {b0 rb : Nat} {lv : Value} {ts : List (List UInt8)} (h : RAt w b0 rb lv ts) (hk : Keeps F w w') (hF : ¬ F rb) (hF2 : ∀ k, lv.ownBlock = some k → ¬ F k) : RAt w' b0 rb lv ts := by
  have e := hk.block rb h.lt hF
  exact ⟨h.ge, Nat.lt_of_lt_of_le h.lt hk.size, (World.cell?_of_block (w := w) e).trans h.c0, (World.frozen?_of_block (w := w) e).trans h.f0, h.own.keeps hk (fun k hv _ hf => hF2 k hv hf), h.ne⟩
theorem RAt.lastC {w : World} {b0 rb g off c : Nat} {init : List (List UInt8)} {t : List UInt8} (h : RAt w b0 rb (.slice (some ⟨g, off, none⟩) (init.length + 1) c) (init ++ [t])) : w.cell? ⟨g, off + init.length, none⟩ = some (.string (B t)) := by
  have ho := h.own
  rw [show (init ++ [t]).length = init.length + 1 by simp] at ho
  obtain ⟨y, hy, hyc, _⟩ := ho.cellOk init.length (by omega)
  have hyt : y = t := by simpa using hy.symm
  subst hyt
  exact hyc
theorem turn_none (w : World) (b0 rb : Nat) (lv : Value) (h : RAt w b0 rb lv []) : Calls Try.prog 62 #[.pointer (some ⟨rb, 0, none⟩)] w fun e w' => e = .returned (.tuple #[.string (B []), .bool false]) ∧ Below w.heap.size w w' := by
  have HT := Lib.hid (top_none w b0 rb lv h)
  have c0 := h.c0
  haveI : Old w rb := ⟨h.lt⟩
  obtain ⟨A, c, rfl, _⟩ := h.own.form0
  clear h
  go_enter Try.func62, Try.ntmps62
  go_wp2_with (go_at_call 63; refine HT.out.mono ?_; rintro e w1 ⟨rfl, hb⟩)
  go_ret2
  exact ⟨rfl, by assumption⟩
structure TurnP (b0 rb : Nat) (ts : List (List UInt8)) (t2 : List UInt8) (w : World) (e : Ending) (w' : World) : Prop where
  e : e = .returned (.tuple #[.string (B t2), .bool true])
  j : ∃ v', RAt w' b0 rb v' ts ∧ Keeps (fun k => k = rb) w w' ∧ ∀ k, v'.ownBlock = some k → w.heap.size ≤ k
set_option maxHeartbeats 3200000 in
theorem turn_some (w : World) (b0 rb : Nat) (lv : Value) (init init2 : List (List UInt8)) (t t2 : List UInt8) (h : RAt w b0 rb lv (init ++ [t])) (hl : init.length ≤ 20) (h2 : t :: init = init2 ++ [t2]) : Calls Try.prog 62 #[.pointer (some ⟨rb, 0, none⟩)] w (TurnP b0 rb (t :: init) t2 w) := by
  obtain ⟨i0, hi0, hz00, hz01, hz02⟩ := info_parts info_str
  have c0 := h.c0
  have hrl := h.lt
  haveI : Old w rb := ⟨h.lt⟩
  have HR := Lib.hid h
  have hbw : b0 ≤ w.heap.size := Nat.le_of_lt (Nat.lt_of_le_of_lt h.ge h.lt)
  have hlen : (init ++ [t]).length = init.length + 1 := by simp
  have ho := h.own
  rw [hlen] at ho
  obtain ⟨g, off, c, rfl, _, hg, hc1, hc2⟩ := ho.form
  haveI : Old w g := ⟨hg⟩
  have hk0 : (0 : Int) ≤ (init.length : Int) := by omega
  have H2 := Lib.hid h2
  have hwi : IntKind.i64.wrap (init.length : Int) = (init.length : Int) := IntWalk.i64_in _ (by omega)
  have hk1 : (init.length : Int) < (init.length : Int) + 1 := by omega
  have hk2 : (init.length : Int) ≤ (c : Int) := by omega
  clear h ho h2
  go_enter Try.func62, Try.ntmps62
  go_wp2
  refine wp_region_keyed (fun W => W.cell? ⟨rb, 0, none⟩ = some (.slice (some ⟨g, off, none⟩) (init.length + 1) c) ∧ W.cell? ⟨g, off + init.length, none⟩ = some (.string (B t))) [20] (by kernel_rfl) ?_
  have HR := Lib.hid (HR.out.below (below_drew (Below.refl _ _)))
  have HB := Lib.hid (below_drew (Below.refl w.heap.size w))
  have HB0 := Lib.hid (below_drew (Below.refl w.heap.size w))
  have hbD : b0 ≤ w.drew.heap.size := hbw
  have hgD : g < w.drew.heap.size := hg
  generalize w.drew = D at *
  have hrD := HR.out.lt
  refine wpAnyK_take (i := 0) (v := ?v0_1) rfl (by kernel_rfl) (by kernel_rfl) (by kernel_rfl) (by kernel_rfl) (fun _ _ _ h => h) (Or.inl ⟨by rfl, ?y0_1⟩) (fun _ => ⟨HR.out.c0, HR.out.lastC⟩) ?r0_1
  case y0_1 =>
    intro w hSw
    go_simp
    try with_reducible rfl
  try simp only [Act.put, List.setIfInBounds_toArray, List.set_cons_zero, List.set_cons_succ]
  refine wpAnyK_take (i := 1) (v := ?v1_2) rfl (by kernel_rfl) (by kernel_rfl) (by kernel_rfl) (by kernel_rfl) (fun _ _ _ h => h) (Or.inl ⟨by rfl, ?y1_2⟩) (fun _ => ⟨HR.out.c0, HR.out.lastC⟩) ?r1_2
  case y1_2 =>
    intro w hSw
    go_simp
    try with_reducible rfl
  try simp only [Act.put, List.setIfInBounds_toArray, List.set_cons_zero, List.set_cons_succ]
  refine wpAnyK_take (i := 2) (v := ?v2_3) rfl (by kernel_rfl) (by kernel_rfl) (by kernel_rfl) (by kernel_rfl) (fun _ _ _ h => h) (Or.inl ⟨by rfl, ?y2_3⟩) (fun _ => ⟨HR.out.c0, HR.out.lastC⟩) ?r2_3
  case y2_3 =>
    intro w hSw
    go_simp
    try with_reducible rfl
  try simp only [Act.put, List.setIfInBounds_toArray, List.set_cons_zero, List.set_cons_succ]
  refine wpAnyK_take (i := 3) (v := ?v3_4) rfl (by kernel_rfl) (by kernel_rfl) (by kernel_rfl) (by kernel_rfl) (fun _ _ _ h => h) (Or.inl ⟨by rfl, ?y3_4⟩) (fun _ => ⟨HR.out.c0, HR.out.lastC⟩) ?r3_4
  case y3_4 =>
    intro w hSw
    go_simp
    try with_reducible rfl
  try simp only [Act.put, List.setIfInBounds_toArray, List.set_cons_zero, List.set_cons_succ]
  refine wpAnyK_load (i := 4) [7, 8, 9, 17, 18, 19, 20] (v := ?v4_5) rfl (by kernel_rfl) (by kernel_rfl) (by kernel_rfl) (by kernel_rfl) (by kernel_rfl) (fun _ _ _ h => h) (Or.inl ⟨by rfl, ?y4_5⟩) (fun _ => ⟨HR.out.c0, HR.out.lastC⟩) ?r4_5
  case y4_5 =>
    intro w hSw
    (try dsimp only at hSw)
    go_split_ands
    go_simp
    try with_reducible rfl
  try simp only [Act.put, List.setIfInBounds_toArray, List.set_cons_zero, List.set_cons_succ]
  refine wpAnyK_take (i := 5) (v := ?v5_6) rfl (by kernel_rfl) (by kernel_rfl) (by kernel_rfl) (by kernel_rfl) (fun _ _ _ h => h) (Or.inl ⟨by rfl, ?y5_6⟩) (fun _ => ⟨HR.out.c0, HR.out.lastC⟩) ?r5_6
  case y5_6 =>
    intro w hSw
    go_simp
    try with_reducible rfl
  try simp only [Act.put, List.setIfInBounds_toArray, List.set_cons_zero, List.set_cons_succ]
  refine wpAnyK_take (i := 6) (v := ?v6_7) rfl (by kernel_rfl) (by kernel_rfl) (by kernel_rfl) (by kernel_rfl) (fun _ _ _ h => h) (Or.inl ⟨by rfl, ?y6_7⟩) (fun _ => ⟨HR.out.c0, HR.out.lastC⟩) ?r6_7
  case y6_7 =>
    intro w hSw
    go_simp
    try with_reducible rfl
  try simp only [Act.put, List.setIfInBounds_toArray, List.set_cons_zero, List.set_cons_succ]
  refine wpAnyK_take (i := 7) (v := ?v7_8) rfl (by kernel_rfl) (by kernel_rfl) (by kernel_rfl) (by kernel_rfl) (fun _ _ _ h => h) (Or.inl ⟨by rfl, ?y7_8⟩) (fun _ => ⟨HR.out.c0, HR.out.lastC⟩) ?r7_8
  case y7_8 =>
    intro w hSw
    go_simp
    try with_reducible rfl
  try simp only [Act.put, List.setIfInBounds_toArray, List.set_cons_zero, List.set_cons_succ]
  refine wpAnyK_load (i := 8) [9, 17, 18, 19, 20] (v := ?v8_9) rfl (by kernel_rfl) (by kernel_rfl) (by kernel_rfl) (by kernel_rfl) (by kernel_rfl) (fun _ _ _ h => h) (Or.inl ⟨by rfl, ?y8_9⟩) (fun _ => ⟨HR.out.c0, HR.out.lastC⟩) ?r8_9
  case y8_9 =>
    intro w hSw
    (try dsimp only at hSw)
    go_split_ands
    go_simp
    try with_reducible rfl
  try simp only [Act.put, List.setIfInBounds_toArray, List.set_cons_zero, List.set_cons_succ]
  refine wpAnyK_take (i := 10) (v := ?v10_10) rfl (by kernel_rfl) (by kernel_rfl) (by kernel_rfl) (by kernel_rfl) (fun _ _ _ h => h) (Or.inl ⟨by rfl, ?y10_10⟩) (fun _ => ⟨HR.out.c0, HR.out.lastC⟩) ?r10_10
  case y10_10 =>
    intro w hSw
    go_simp
    try with_reducible rfl
  try simp only [Act.put, List.setIfInBounds_toArray, List.set_cons_zero, List.set_cons_succ]
  refine wpAnyK_take (i := 11) (v := ?v11_11) rfl (by kernel_rfl) (by kernel_rfl) (by kernel_rfl) (by kernel_rfl) (fun _ _ _ h => h) (Or.inl ⟨by rfl, ?y11_11⟩) (fun _ => ⟨HR.out.c0, HR.out.lastC⟩) ?r11_11
  case y11_11 =>
    intro w hSw
    go_simp
    try with_reducible rfl
  try simp only [Act.put, List.setIfInBounds_toArray, List.set_cons_zero, List.set_cons_succ]
  refine wpAnyK_take (i := 12) (v := ?v12_12) rfl (by kernel_rfl) (by kernel_rfl) (by kernel_rfl) (by kernel_rfl) (fun _ _ _ h => h) (Or.inl ⟨by rfl, ?y12_12⟩) (fun _ => ⟨HR.out.c0, HR.out.lastC⟩) ?r12_12
  case y12_12 =>
    intro w hSw
    go_simp
    try with_reducible rfl
  try simp only [Act.put, List.setIfInBounds_toArray, List.set_cons_zero, List.set_cons_succ]
  refine wpAnyK_load (i := 13) [16, 17, 18, 19, 20] (v := ?v13_13) rfl (by kernel_rfl) (by kernel_rfl) (by kernel_rfl) (by kernel_rfl) (by kernel_rfl) (fun _ _ _ h => h) (Or.inl ⟨by rfl, ?y13_13⟩) (fun _ => ⟨HR.out.c0, HR.out.lastC⟩) ?r13_13
  case y13_13 =>
    intro w hSw
    (try dsimp only at hSw)
    go_split_ands
    go_simp
    try with_reducible rfl
  try simp only [Act.put, List.setIfInBounds_toArray, List.set_cons_zero, List.set_cons_succ]
  refine wpAnyK_take (i := 14) (v := ?v14_14) rfl (by kernel_rfl) (by kernel_rfl) (by kernel_rfl) (by kernel_rfl) (fun _ _ _ h => h) (Or.inl ⟨by rfl, ?y14_14⟩) (fun _ => ⟨HR.out.c0, HR.out.lastC⟩) ?r14_14
  case y14_14 =>
    intro w hSw
    go_simp
    try with_reducible rfl
  try simp only [Act.put, List.setIfInBounds_toArray, List.set_cons_zero, List.set_cons_succ]
  refine wpAnyK_take (i := 15) (v := ?v15_15) rfl (by kernel_rfl) (by kernel_rfl) (by kernel_rfl) (by kernel_rfl) (fun _ _ _ h => h) (Or.inl ⟨by rfl, ?y15_15⟩) (fun _ => ⟨HR.out.c0, HR.out.lastC⟩) ?r15_15
  case y15_15 =>
    intro w hSw
    go_simp
    try with_reducible rfl
  try simp only [Act.put, List.setIfInBounds_toArray, List.set_cons_zero, List.set_cons_succ]
  refine wpAnyK_take (i := 16) (v := ?v16_16) rfl (by kernel_rfl) (by kernel_rfl) (by kernel_rfl) (by kernel_rfl) (fun _ _ _ h => h) (Or.inl ⟨by rfl, ?y16_16⟩) (fun _ => ⟨HR.out.c0, HR.out.lastC⟩) ?r16_16
  case y16_16 =>
    intro w hSw
    go_simp
    try with_reducible rfl
  try simp only [Act.put, List.setIfInBounds_toArray, List.set_cons_zero, List.set_cons_succ]
  refine wpAnyK_ready (rs := [9]) (by kernel_rfl) (by simp) ?_
  refine AllReadyK.cons (i := 9) rfl (fun K hK => ?_) ?_
  · haveI : Old D g := ⟨hgD⟩
    haveI : Old D rb := ⟨HR.out.lt⟩
    go_simp
    have HS := Lib.hid ((sl_init HR.out.own).below (below_alloc (Below.refl _ _) (.cells #[.string (B t)] 9)))
    have HR := Lib.hid (HR.out.below (below_alloc (Below.refl _ _) (.cells #[.string (B t)] 9)))
    refine hK.out _ _ (fun _ => ⟨HR.out.c0, HR.out.lastC⟩) ?_
    clear hK K
    try simp only [Act.put, List.setIfInBounds_toArray, List.set_cons_zero, List.set_cons_succ]
    refine wpAnyK_ready (rs := [17]) (by kernel_rfl) (by simp) ?_
    refine AllReadyK.cons (i := 17) rfl (fun K hK => ?_) ?_
    · (refine step_append_src _ rfl (.tmp 21) (.tmp 28) _ rfl b0 9 i0 _ 1 16 Try.underlying22 hi0 hz00 hz01 hz02 rfl (by decide) _ 1 [.string (B t)] rfl (own_one D b0 (.string (B t)) _ hbD) _ init.length (init.flatMap strC) rfl (by rw [strC_flat, Nat.mul_one]) (HS.out.src strC_len) strC_one (by unfold maxLen; omega) (by omega) (by first | (simp; done) | omega | (simp; omega)) ?_; intro v17 w17 hown17 hg17 hat17 hty17; have HTY17 := Lib.hid hty17; clear hty17)
      have hfr : ∀ k, (Value.slice (some ⟨D.heap.size, 0, none⟩) 1 1).ownBlock = some k → D.heap.size ≤ k := fun k e => Nat.le_of_eq (Option.some.inj e)
      have HR0 := Lib.hid (HR.out.keeps hg17 (fun hf => by have := hfr _ hf.1; omega) (fun k e hf => by have := hfr _ hf.1; have e2 : g = k := Option.some.inj e; omega))
      have HB := Lib.hid (below_keeps (below_alloc HB.out (.cells #[.string (B t)] 9)) hg17 (fun k hf => Nat.le_trans HB.out.size (hfr k hf.1)))
      have HAT : Hid (∀ k, v17.ownBlock = some k → D.heap.size ≤ k) := by
        intro k e
        rcases hat17 with e1 | e1
        · exact hfr k (e1 ▸ e)
        · have := e1 k e; simp at this; omega
      have HK := Lib.hid ((Keeps.of_below (F := fun k => k = rb) (below_alloc (Below.refl D.heap.size D) (.cells #[.string (B t)] 9))).step hg17 (fun j hj hf => by have := hfr _ hf.1; omega))
      have HO := Lib.hid hown17
      have HR := HR0
      obtain ⟨g17, o17, c17, rfl, -, -, -, -⟩ := hown17.form' (by omega)
      clear hown17 hg17 hat17
      refine hK.out _ _ (fun _ => ⟨HR.out.c0, HR.out.lastC⟩) ?_
      clear hK K
      try simp only [Act.put, List.setIfInBounds_toArray, List.set_cons_zero, List.set_cons_succ]
      refine wpAnyK_take (i := 18) (v := ?v18_17) rfl (by kernel_rfl) (by kernel_rfl) (by kernel_rfl) (by kernel_rfl) (fun _ _ _ h => h) (Or.inl ⟨by rfl, ?y18_17⟩) (fun _ => ⟨HR.out.c0, HR.out.lastC⟩) ?r18_17
      case y18_17 =>
        intro w hSw
        go_simp
        try with_reducible rfl
      try simp only [Act.put, List.setIfInBounds_toArray, List.set_cons_zero, List.set_cons_succ]
      refine wpAnyK_take (i := 19) (v := ?v19_18) rfl (by kernel_rfl) (by kernel_rfl) (by kernel_rfl) (by kernel_rfl) (fun _ _ _ h => h) (Or.inl ⟨by rfl, ?y19_18⟩) (fun _ => ⟨HR.out.c0, HR.out.lastC⟩) ?r19_18
      case y19_18 =>
        intro w hSw
        go_simp
        try with_reducible rfl
      try simp only [Act.put, List.setIfInBounds_toArray, List.set_cons_zero, List.set_cons_succ]
      refine wpAnyK_ready (rs := [20]) (by kernel_rfl) (by simp) ?_
      refine AllReadyK.cons (i := 20) rfl (fun K hK => ?_) ?_
      · have d0 := HR.out.c0
        have df := HR.out.f0
        go_simp
        refine hK.out _ _ (fun h => Bool.noConfusion ((show unl _ _ = false by kernel_rfl).symm.trans h)) ?_
        clear hK K
        try simp only [Act.put, List.setIfInBounds_toArray, List.set_cons_zero, List.set_cons_succ]
        refine wpAnyK_done (by kernel_rfl) ?_ _
        try simp only [Act.put, List.setIfInBounds_toArray, List.set_cons_zero, List.set_cons_succ]
        have hk18 := Keeps.setCell (F := fun k => k = rb) w17 (a := ⟨rb, 0, none⟩) rfl (.slice (some ⟨g17, o17, none⟩) (1 + init.length) c17)
        have hn17 : (Value.slice (some ⟨g17, o17, none⟩) (1 + init.length) c17).ownBlock ≠ some rb := fun e => by have := HAT.out rb e; omega
        have HR2 : Hid (RAt (w17.setCell ⟨rb, 0, none⟩ (.slice (some ⟨g17, o17, none⟩) (1 + init.length) c17)) b0 rb (.slice (some ⟨g17, o17, none⟩) (1 + init.length) c17) (t :: init)) := by
          refine ⟨HR.out.ge, by simpa [World.setCell] using HR.out.lt, World.cell?_setCell_same' _ _ _ (by rw [HR.out.c0]; rfl), (World.frozen?_setCell _ _ _ _).trans HR.out.f0, ?_, hn17⟩
          rw [show (t :: init).length = 1 + init.length by simp; omega]
          exact HO.out.keeps hk18 (fun k e _ hf => hn17 (by rw [e, hf]))
        have HK2 := Lib.hid (((Keeps.of_below (F := fun k => k = rb) HB0.out).trans HK.out).trans hk18)
        obtain ⟨W2, hW2⟩ : ∃ W2, W2 = w17.setCell ⟨rb, 0, none⟩ (.slice (some ⟨g17, o17, none⟩) (1 + init.length) c17) := ⟨_, rfl⟩
        rw [← hW2] at HR2 HK2 ⊢
        clear hW2 hk18 HR HO
        have HT := Lib.hid (top_some W2 b0 rb _ init2 t2 (by rw [← H2.out]; exact HR2.out) (by have := congrArg List.length H2.out; simp at this; omega))
        go_wp2_with (go_at_call 63; refine HT.out.mono ?_; rintro e w3 ⟨rfl, hb3⟩; have HB3 := Lib.hid hb3; clear hb3)
        go_ret2
        exact ⟨rfl, _, HR2.out.below HB3.out, HK2.out.trans (Keeps.of_below HB3.out), fun k e => Nat.le_trans HB0.out.size (HAT.out k e)⟩
      exact AllReadyK.nil
    exact AllReadyK.nil
  exact AllReadyK.nil

end Go.Proofs.Ytkinjjgaecbogaa
