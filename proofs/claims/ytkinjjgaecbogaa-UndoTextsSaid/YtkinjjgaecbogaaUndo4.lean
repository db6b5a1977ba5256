/-
  The walks of layer 2 (undo), on: Push without a join (printed by gen_push.py). Conditions: at most 2^30 steps.
-/
import Derived.Test.YtkinjjgaecbogaaUndo3
namespace Go.Proofs.Ytkinjjgaecbogaa
open Go.ChangeShapes Go.WideShapes Go.Deep Go.RowKit
set_option maxRecDepth 100000
set_option linter.unusedSimpArgs false
set_option maxHeartbeats 6400000 in
theorem push_a (w : World) (b0 jb : Nat) (lv : Value) (most : Nat) (l : List Stp) (p : Nat) (s : Stp) (jn : Bool) (h : JAt w b0 jb lv most l p) (hjn : jn = false ∨ p = 0) (hl : l.length ≤ 1073741824) (hm1 : 1 ≤ most) (hm2 : most ≤ 100000) :
    Calls Try.prog 52 #[.pointer (some ⟨jb, 0, none⟩), s.val, .bool jn] w (PushP b0 jb lv most (keepL most (l.take p ++ [s])) (keepL most (l.take p ++ [s])).length w) := by
  obtain ⟨i5, hi5, hz50, hz51, hz52⟩ := info_parts info_stp
  have H := Lib.hid h
  have hcap := h.own.cap
  obtain ⟨A, c, rfl, hA⟩ := h.own.form0
  replace hcap := hcap A _ c rfl
  have hple := h.ple
  have hjw := h.lt
  have hbj := h.ge
  have HLV : Hid (∀ j, (Value.slice A p p).ownBlock = some j → (Value.slice A l.length c).ownBlock = some j) := fun j hj => (ownSl A _ _ _ _).trans hj
  clear h
  unfold Stp.val
  go_enter Try.func52, Try.ntmps52
  go_wp2
  have HB := Lib.hid (Box5.new w (.int .i64 s.ed.pos) (.string (B s.ed.del)) (.string (B s.ed.ins)) (.int .i64 s.ahead) (.int .i64 s.behind) 89)
  have H0 := Lib.hid (H.out.below (below_alloc (Below.refl _ _) (.cells #[.int .i64 s.ed.pos, .string (B s.ed.del), .string (B s.ed.ins), .int .i64 s.ahead, .int .i64 s.behind] 89)))
  have HK0 : Hid (Keeps (fun k => k = jb ∨ ((Value.slice A l.length c).ownBlock = some k ∧ b0 ≤ k)) w (w.alloc (.cells #[.int .i64 s.ed.pos, .string (B s.ed.del), .string (B s.ed.ins), .int .i64 s.ahead, .int .i64 s.behind] 89))) := Keeps.of_below (below_alloc (Below.refl _ _) _)
  have HNR : Hid ((Value.slice A p p).ownBlock ≠ some w.heap.size) := fun e => Nat.lt_irrefl _ (H.out.own.lt _ ((ownSl A _ _ _ _).trans e))
  generalize hrb : w.heap.size = rb at *
  have hrj : rb ≠ jb := by omega
  generalize (w.alloc (.cells #[.int .i64 s.ed.pos, .string (B s.ed.del), .string (B s.ed.ins), .int .i64 s.ahead, .int .i64 s.behind] 89)) = W0 at *
  have c1 := H0.out.c1
  have c2 := H0.out.c2
  have f0 := H0.out.f0
  have hp0 : (0 : Int) ≤ (p : Int) := by omega
  have hp1 : (p : Int) ≤ (c : Int) := by omega
  haveI : Old W0 jb := ⟨H0.out.lt⟩
  haveI : Old W0 rb := ⟨HB.out.lt⟩
  have HN : Hid ((Value.slice A p p).ownBlock ≠ some jb) := fun e => H0.out.ne ((ownSl A _ _ _ _).trans e)
  have HO1 := Lib.hid (H0.out.own.cut (k := p) (by omega))
  have HC1 := Lib.hid (H0.out.jc.set1 (.slice A p p))
  have HKS := Lib.hid (Keeps.setCell (F := fun k => k = jb) W0 (a := ⟨jb, 1, none⟩) rfl (.slice A p p))
  (refine wp_region_grow_tail 14 (by kernel_rfl) (by kernel_rfl) ?_; simp only [List.take_succ_cons, List.take_zero, List.drop_succ_cons, List.drop_zero]; (repeat (go_big_quiet_step (fail))); refine wpQuiet_nil ?_; intro _ hw'; obtain ⟨gq, hw''⟩ := hw'; subst hw'')
  cases jn with

  | false =>
    clear hjn
    go_wp2
    generalize growSet gq ⟨jb, 1, none⟩ (.slice A p p) = g2
    have HO := Lib.hid ((HO1.out.keeps HKS.out (fun k e _ hf => HN.out (by rw [e, hf]))).below (grow_below _ g2))
    have HC := Lib.hid (HC1.out.below (grow_below _ g2))
    have HB := Lib.hid ((HB.out.keeps HKS.out hrj).keeps (Keeps.of_below (F := fun _ => False) (grow_below _ g2)) id)
    have HK := Lib.hid ((HK0.out.step HKS.out (fun j _ hf => .inl hf)).step (Keeps.of_below (F := fun _ => False) (grow_below _ g2)) (fun _ _ hf => hf.elim))
    generalize grow (W0.setCell ⟨jb, 1, none⟩ (.slice A p p)) g2 = W1 at *
    rw [stp_take] at HO
    have hl0 : (l.take p).length = p := by rw [List.length_take]; omega
    generalize l.take p = l0 at *
    clear c1 c2 f0 HO1 HC1 HKS H0 HK0
    obtain rfl : p = l0.length := hl0.symm
    have HC0 := Lib.hid HC.out.lt
    have hbw : b0 ≤ W1.heap.size := by have := HC.out.ge; have := HC.out.lt; omega
    haveI : Old W1 rb := ⟨HB.out.lt⟩
    haveI : Old W1 jb := ⟨HC.out.lt⟩
    refine wp_region_keyed (fun W => W.cell? ⟨jb, 1, none⟩ = some (.slice A l0.length l0.length) ∧ W.cell? ⟨rb, 0, none⟩ = some (.int .i64 s.ed.pos) ∧ W.cell? ⟨rb, 1, none⟩ = some (.string (B s.ed.del)) ∧ W.cell? ⟨rb, 2, none⟩ = some (.string (B s.ed.ins)) ∧ W.cell? ⟨rb, 3, none⟩ = some (.int .i64 s.ahead) ∧ W.cell? ⟨rb, 4, none⟩ = some (.int .i64 s.behind)) [10] (by kernel_rfl) ?_
    have HC := Lib.hid (HC.out.below (below_drew (Below.refl _ _)))
    have HB := Lib.hid (HB.out.keeps (Keeps.of_below (F := fun _ => False) (below_drew (Below.refl _ _))) id)
    have HO := Lib.hid (HO.out.below (below_drew (Below.refl _ _)))
    have HK := Lib.hid (HK.out.trans (Keeps.of_below (below_drew (Below.refl _ _))))
    have hDs : b0 ≤ W1.drew.heap.size := hbw
    generalize W1.drew = D at *
    refine wpAnyK_take (i := 0) (v := ?v0_1a) rfl (by kernel_rfl) (by kernel_rfl) (by kernel_rfl) (by kernel_rfl) (fun _ _ _ h => h) (Or.inl ⟨by rfl, ?y0_1a⟩) (fun _ => ⟨HC.out.c1, HB.out.c0, HB.out.c1, HB.out.c2, HB.out.c3, HB.out.c4⟩) ?r0_1a
    case y0_1a =>
      intro w hSw
      go_simp
      try with_reducible rfl
    try simp only [Act.put, List.setIfInBounds_toArray, List.set_cons_zero, List.set_cons_succ]
    refine wpAnyK_take (i := 1) (v := ?v1_2a) rfl (by kernel_rfl) (by kernel_rfl) (by kernel_rfl) (by kernel_rfl) (fun _ _ _ h => h) (Or.inl ⟨by rfl, ?y1_2a⟩) (fun _ => ⟨HC.out.c1, HB.out.c0, HB.out.c1, HB.out.c2, HB.out.c3, HB.out.c4⟩) ?r1_2a
    case y1_2a =>
      intro w hSw
      go_simp
      try with_reducible rfl
    try simp only [Act.put, List.setIfInBounds_toArray, List.set_cons_zero, List.set_cons_succ]
    refine wpAnyK_take (i := 2) (v := ?v2_3a) rfl (by kernel_rfl) (by kernel_rfl) (by kernel_rfl) (by kernel_rfl) (fun _ _ _ h => h) (Or.inl ⟨by rfl, ?y2_3a⟩) (fun _ => ⟨HC.out.c1, HB.out.c0, HB.out.c1, HB.out.c2, HB.out.c3, HB.out.c4⟩) ?r2_3a
    case y2_3a =>
      intro w hSw
      go_simp
      try with_reducible rfl
    try simp only [Act.put, List.setIfInBounds_toArray, List.set_cons_zero, List.set_cons_succ]
    refine wpAnyK_take (i := 3) (v := ?v3_4a) rfl (by kernel_rfl) (by kernel_rfl) (by kernel_rfl) (by kernel_rfl) (fun _ _ _ h => h) (Or.inl ⟨by rfl, ?y3_4a⟩) (fun _ => ⟨HC.out.c1, HB.out.c0, HB.out.c1, HB.out.c2, HB.out.c3, HB.out.c4⟩) ?r3_4a
    case y3_4a =>
      intro w hSw
      go_simp
      try with_reducible rfl
    try simp only [Act.put, List.setIfInBounds_toArray, List.set_cons_zero, List.set_cons_succ]
    refine wpAnyK_load (i := 4) [7, 8, 9, 10] (v := ?v4_5a) rfl (by kernel_rfl) (by kernel_rfl) (by kernel_rfl) (by kernel_rfl) (by kernel_rfl) (fun _ _ _ h => h) (Or.inl ⟨by rfl, ?y4_5a⟩) (fun _ => ⟨HC.out.c1, HB.out.c0, HB.out.c1, HB.out.c2, HB.out.c3, HB.out.c4⟩) ?r4_5a
    case y4_5a =>
      intro w hSw
      (try dsimp only at hSw)
      go_split_ands
      go_simp
      try with_reducible rfl
    try simp only [Act.put, List.setIfInBounds_toArray, List.set_cons_zero, List.set_cons_succ]
    refine wpAnyK_load (i := 5) [6, 7, 8, 9, 10] (v := ?v5_6a) rfl (by kernel_rfl) (by kernel_rfl) (by kernel_rfl) (by kernel_rfl) (by kernel_rfl) (fun _ _ _ h => h) (Or.inl ⟨by rfl, ?y5_6a⟩) (fun _ => ⟨HC.out.c1, HB.out.c0, HB.out.c1, HB.out.c2, HB.out.c3, HB.out.c4⟩) ?r5_6a
    case y5_6a =>
      intro w hSw
      (try dsimp only at hSw)
      go_split_ands
      go_simp
      try with_reducible rfl
    try simp only [Act.put, List.setIfInBounds_toArray, List.set_cons_zero, List.set_cons_succ]
    refine wpAnyK_ready (rs := [6]) (by kernel_rfl) (by simp) ?_
    refine AllReadyK.cons (i := 6) rfl (fun K hK => ?_) ?_
    · go_simp
      have HC := Lib.hid (HC.out.below (below_alloc (Below.refl _ _) (.cells #[.int .i64 s.ed.pos, .string (B s.ed.del), .string (B s.ed.ins), .int .i64 s.ahead, .int .i64 s.behind] 89)))
      have HB := Lib.hid (HB.out.keeps (Keeps.of_below (F := fun _ => False) (below_alloc (Below.refl _ _) (.cells #[.int .i64 s.ed.pos, .string (B s.ed.del), .string (B s.ed.ins), .int .i64 s.ahead, .int .i64 s.behind] 89))) id)
      have HK := Lib.hid (HK.out.trans (Keeps.of_below (below_alloc (Below.refl _ _) (.cells #[.int .i64 s.ed.pos, .string (B s.ed.del), .string (B s.ed.ins), .int .i64 s.ahead, .int .i64 s.behind] 89))))
      refine hK.out _ _ (fun _ => ⟨HC.out.c1, HB.out.c0, HB.out.c1, HB.out.c2, HB.out.c3, HB.out.c4⟩) ?_
      clear hK K
      try simp only [Act.put, List.setIfInBounds_toArray, List.set_cons_zero, List.set_cons_succ]
      refine wpAnyK_ready (rs := [7]) (by kernel_rfl) (by simp) ?_
      refine AllReadyK.cons (i := 7) rfl (fun K hK => ?_) ?_
      · (refine step_append_src _ rfl (.tmp 74) (.tmp 76) _ rfl b0 89 i5 _ 5 56 Try.underlying87 hi5 hz50 hz51 hz52 rfl (by decide) _ l0.length (l0.flatMap Stp.cells) rfl (HO.out.below (below_alloc (Below.refl _ _) _)) _ 1 (Stp.cells s) rfl rfl (by refine src_one _ _ _ _ _ ?_; first | rfl | (simp; done) | omega | (simp; omega)) (by simp [Stp.cells, Value.oneCell']) (by unfold maxLen; omega) (by omega) (by first | (simp; done) | omega | (simp; omega)) ?_; intro v7 w7 hown7 hg7 hat7 hty7; have HTY7 := Lib.hid hty7; clear hty7)
        have hlt7 := HC.out.lt
        have HC := Lib.hid (HC.out.keeps hg7 (fun hf => HN.out hf.1))
        have HB := Lib.hid (HB.out.keeps hg7 (fun hf => HNR.out hf.1))
        have HK := Lib.hid (HK.out.step hg7 (fun j _ hf => .inr ⟨HLV.out j hf.1, hf.2⟩))
        have HO7 := Lib.hid (own_snocS hown7)
        have HN7 : Hid (v7.ownBlock ≠ some jb) := by
          intro e
          rcases hat7 with e1 | e1
          · exact HN.out (e1 ▸ e)
          · have := e1 _ e; omega
        obtain ⟨g7, o7, c7, rfl, -, -, -, -⟩ := hown7.form
        clear hown7 hg7 hat7
        refine hK.out _ _ (fun _ => ⟨HC.out.c1, HB.out.c0, HB.out.c1, HB.out.c2, HB.out.c3, HB.out.c4⟩) ?_
        clear hK K
        try simp only [Act.put, List.setIfInBounds_toArray, List.set_cons_zero, List.set_cons_succ]
        refine wpAnyK_take (i := 8) (v := ?v8_7a) rfl (by kernel_rfl) (by kernel_rfl) (by kernel_rfl) (by kernel_rfl) (fun _ _ _ h => h) (Or.inl ⟨by rfl, ?y8_7a⟩) (fun _ => ⟨HC.out.c1, HB.out.c0, HB.out.c1, HB.out.c2, HB.out.c3, HB.out.c4⟩) ?r8_7a
        case y8_7a =>
          intro w hSw
          go_simp
          try with_reducible rfl
        try simp only [Act.put, List.setIfInBounds_toArray, List.set_cons_zero, List.set_cons_succ]
        refine wpAnyK_take (i := 9) (v := ?v9_8a) rfl (by kernel_rfl) (by kernel_rfl) (by kernel_rfl) (by kernel_rfl) (fun _ _ _ h => h) (Or.inl ⟨by rfl, ?y9_8a⟩) (fun _ => ⟨HC.out.c1, HB.out.c0, HB.out.c1, HB.out.c2, HB.out.c3, HB.out.c4⟩) ?r9_8a
        case y9_8a =>
          intro w hSw
          go_simp
          try with_reducible rfl
        try simp only [Act.put, List.setIfInBounds_toArray, List.set_cons_zero, List.set_cons_succ]
        refine wpAnyK_ready (rs := [10]) (by kernel_rfl) (by simp) ?_
        refine AllReadyK.cons (i := 10) rfl (fun K hK => ?_) ?_
        · have c1 := HC.out.c1
          have f0 := HC.out.f0
          go_simp
          refine hK.out _ _ (fun h => Bool.noConfusion ((show unl _ _ = false by kernel_rfl).symm.trans h)) ?_
          clear hK K
          try simp only [Act.put, List.setIfInBounds_toArray, List.set_cons_zero, List.set_cons_succ]
          refine wpAnyK_done (by kernel_rfl) ?_ _
          have HJ : Hid (JAt (w7.setCell ⟨jb, 1, none⟩ (.slice (some ⟨g7, o7, none⟩) (l0.length + 1) c7)) b0 jb (.slice (some ⟨g7, o7, none⟩) (l0.length + 1) c7) most (l0 ++ [s]) l0.length) := JC.jat (HC.out.set1 (.slice (some ⟨g7, o7, none⟩) (l0.length + 1) c7)) (HO7.out.keeps (Keeps.setCell (F := fun k => k = jb) w7 (a := ⟨jb, 1, none⟩) rfl (.slice (some ⟨g7, o7, none⟩) (l0.length + 1) c7)) (fun k e _ hf => HN7.out (by rw [e, hf]))) HN7.out (by simp)
          have HK := Lib.hid (HK.out.step (Keeps.setCell (F := fun k => k = jb) w7 (a := ⟨jb, 1, none⟩) rfl (.slice (some ⟨g7, o7, none⟩) (l0.length + 1) c7)) (fun j _ hf => .inl hf))
          try simp only [Act.put, List.setIfInBounds_toArray, List.set_cons_zero, List.set_cons_succ]
          obtain ⟨W2, hW2⟩ : ∃ W2, W2 = w7.setCell ⟨jb, 1, none⟩ (.slice (some ⟨g7, o7, none⟩) (l0.length + 1) c7) := ⟨_, rfl⟩
          rw [← hW2] at HJ HK ⊢
          clear hW2 HC HB HO HO7
          have hlen7 : (l0 ++ [s]).length = l0.length + 1 := by simp
          generalize hl1 : l0 ++ [s] = l1 at *
          obtain ⟨g, off, c, e, hgb, hg, hcl, hcm⟩ := HJ.out.own.form' (by omega)
          injection e with e1 e2 e3
          injection e1 with e1
          cases e1
          subst e3
          clear e2
          have c0 := HJ.out.c0
          have c1 := HJ.out.c1
          have c2 := HJ.out.c2
          have f0 := HJ.out.f0
          haveI : Old W2 jb := ⟨HJ.out.lt⟩
          have hcast : ((l1.length : Nat) : Int) = (l0.length : Int) + 1 := by omega
          by_cases hbig : most < l1.length
          · have hb1 : decide (most < l0.length + 1) = true := decide_eq_true (by omega)
            go_wp2
            (refine wp_region_grow (by kernel_rfl) (by kernel_rfl) ?_; (repeat (go_big_quiet_step (fail))); refine wpQuiet_nil ?_; intro _ hw'; obtain ⟨gq, hw''⟩ := hw'; subst hw'')
            go_wp2
            obtain ⟨d, hd⟩ : ∃ d, l0.length + 1 = d + most := ⟨l0.length + 1 - most, by omega⟩
            have hd2 : (l0.length : Int) + 1 - (most : Int) = (d : Int) := by omega
            have hw : IntKind.i64.wrap ((l0.length : Int) + 1 - (most : Int)) = (d : Int) := by rw [hd2]; exact IntWalk.i64_in _ (by omega)
            have hdc : (d : Int) ≤ (c7 : Int) := by omega
            have hd0 : (0 : Int) ≤ (d : Int) := by omega
            have hwd : IntKind.i64.wrap (d : Int) = (d : Int) := IntWalk.i64_in _ (by omega)
            have hcne : ¬ c7 = d := by omega
            have hdm : (d : Int) ≤ (d : Int) + (most : Int) := by omega
            refine wp_region_keyed (fun W => W.cell? ⟨jb, 0, none⟩ = some (.int .i64 most) ∧ W.cell? ⟨jb, 1, none⟩ = some (.slice (some ⟨g7, o7, none⟩) (l0.length + 1) c7)) [19] (by kernel_rfl) ?_
            have HC8 := Lib.hid (HJ.out.jc.below (below_drew (grow_below W2 gq)))
            have HO8 := Lib.hid (HJ.out.own.below (below_drew (grow_below W2 gq)))
            have HK8 := Lib.hid (HK.out.trans (Keeps.of_below (below_drew (grow_below W2 gq))))
            have HB8 : Hid (b0 ≤ (grow W2 gq).drew.heap.size) := by have := HC8.out.ge; have := HC8.out.lt; show _ ≤ _; omega
            generalize (grow W2 gq).drew = D at *
            refine wpAnyK_take (i := 0) (v := ?v0_1ax) rfl (by kernel_rfl) (by kernel_rfl) (by kernel_rfl) (by kernel_rfl) (fun _ _ _ h => h) (Or.inl ⟨by rfl, ?y0_1ax⟩) (fun _ => ⟨HC8.out.c0, HC8.out.c1⟩) ?r0_1ax
            case y0_1ax =>
              intro w hSw
              go_simp
              try with_reducible rfl
            try simp only [Act.put, List.setIfInBounds_toArray, List.set_cons_zero, List.set_cons_succ]
            refine wpAnyK_take (i := 1) (v := ?v1_2ax) rfl (by kernel_rfl) (by kernel_rfl) (by kernel_rfl) (by kernel_rfl) (fun _ _ _ h => h) (Or.inl ⟨by rfl, ?y1_2ax⟩) (fun _ => ⟨HC8.out.c0, HC8.out.c1⟩) ?r1_2ax
            case y1_2ax =>
              intro w hSw
              go_simp
              try with_reducible rfl
            try simp only [Act.put, List.setIfInBounds_toArray, List.set_cons_zero, List.set_cons_succ]
            refine wpAnyK_take (i := 2) (v := ?v2_3ax) rfl (by kernel_rfl) (by kernel_rfl) (by kernel_rfl) (by kernel_rfl) (fun _ _ _ h => h) (Or.inl ⟨by rfl, ?y2_3ax⟩) (fun _ => ⟨HC8.out.c0, HC8.out.c1⟩) ?r2_3ax
            case y2_3ax =>
              intro w hSw
              go_simp
              try with_reducible rfl
            try simp only [Act.put, List.setIfInBounds_toArray, List.set_cons_zero, List.set_cons_succ]
            refine wpAnyK_take (i := 3) (v := ?v3_4ax) rfl (by kernel_rfl) (by kernel_rfl) (by kernel_rfl) (by kernel_rfl) (fun _ _ _ h => h) (Or.inl ⟨by rfl, ?y3_4ax⟩) (fun _ => ⟨HC8.out.c0, HC8.out.c1⟩) ?r3_4ax
            case y3_4ax =>
              intro w hSw
              go_simp
              try with_reducible rfl
            try simp only [Act.put, List.setIfInBounds_toArray, List.set_cons_zero, List.set_cons_succ]
            refine wpAnyK_load (i := 4) [15, 16, 17, 18, 19] (v := ?v4_5ax) rfl (by kernel_rfl) (by kernel_rfl) (by kernel_rfl) (by kernel_rfl) (by kernel_rfl) (fun _ _ _ h => h) (Or.inl ⟨by rfl, ?y4_5ax⟩) (fun _ => ⟨HC8.out.c0, HC8.out.c1⟩) ?r4_5ax
            case y4_5ax =>
              intro w hSw
              (try dsimp only at hSw)
              go_split_ands
              go_simp
              try with_reducible rfl
            try simp only [Act.put, List.setIfInBounds_toArray, List.set_cons_zero, List.set_cons_succ]
            refine wpAnyK_take (i := 5) (v := ?v5_6ax) rfl (by kernel_rfl) (by kernel_rfl) (by kernel_rfl) (by kernel_rfl) (fun _ _ _ h => h) (Or.inl ⟨by rfl, ?y5_6ax⟩) (fun _ => ⟨HC8.out.c0, HC8.out.c1⟩) ?r5_6ax
            case y5_6ax =>
              intro w hSw
              go_simp
              try with_reducible rfl
            try simp only [Act.put, List.setIfInBounds_toArray, List.set_cons_zero, List.set_cons_succ]
            refine wpAnyK_take (i := 6) (v := ?v6_7ax) rfl (by kernel_rfl) (by kernel_rfl) (by kernel_rfl) (by kernel_rfl) (fun _ _ _ h => h) (Or.inl ⟨by rfl, ?y6_7ax⟩) (fun _ => ⟨HC8.out.c0, HC8.out.c1⟩) ?r6_7ax
            case y6_7ax =>
              intro w hSw
              go_simp
              try with_reducible rfl
            try simp only [Act.put, List.setIfInBounds_toArray, List.set_cons_zero, List.set_cons_succ]
            refine wpAnyK_take (i := 7) (v := ?v7_8ax) rfl (by kernel_rfl) (by kernel_rfl) (by kernel_rfl) (by kernel_rfl) (fun _ _ _ h => h) (Or.inl ⟨by rfl, ?y7_8ax⟩) (fun _ => ⟨HC8.out.c0, HC8.out.c1⟩) ?r7_8ax
            case y7_8ax =>
              intro w hSw
              go_simp
              try with_reducible rfl
            try simp only [Act.put, List.setIfInBounds_toArray, List.set_cons_zero, List.set_cons_succ]
            refine wpAnyK_load (i := 8) [9, 14, 15, 16, 17, 18, 19] (v := ?v8_9ax) rfl (by kernel_rfl) (by kernel_rfl) (by kernel_rfl) (by kernel_rfl) (by kernel_rfl) (fun _ _ _ h => h) (Or.inl ⟨by rfl, ?y8_9ax⟩) (fun _ => ⟨HC8.out.c0, HC8.out.c1⟩) ?r8_9ax
            case y8_9ax =>
              intro w hSw
              (try dsimp only at hSw)
              go_split_ands
              go_simp
              try with_reducible rfl
            try simp only [Act.put, List.setIfInBounds_toArray, List.set_cons_zero, List.set_cons_succ]
            refine wpAnyK_take (i := 9) (v := ?v9_10ax) rfl (by kernel_rfl) (by kernel_rfl) (by kernel_rfl) (by kernel_rfl) (fun _ _ _ h => h) (Or.inl ⟨by rfl, ?y9_10ax⟩) (fun _ => ⟨HC8.out.c0, HC8.out.c1⟩) ?r9_10ax
            case y9_10ax =>
              intro w hSw
              go_simp
              try with_reducible rfl
            try simp only [Act.put, List.setIfInBounds_toArray, List.set_cons_zero, List.set_cons_succ]
            refine wpAnyK_take (i := 10) (v := ?v10_11ax) rfl (by kernel_rfl) (by kernel_rfl) (by kernel_rfl) (by kernel_rfl) (fun _ _ _ h => h) (Or.inl ⟨by rfl, ?y10_11ax⟩) (fun _ => ⟨HC8.out.c0, HC8.out.c1⟩) ?r10_11ax
            case y10_11ax =>
              intro w hSw
              go_simp
              try with_reducible rfl
            try simp only [Act.put, List.setIfInBounds_toArray, List.set_cons_zero, List.set_cons_succ]
            refine wpAnyK_take (i := 11) (v := ?v11_12ax) rfl (by kernel_rfl) (by kernel_rfl) (by kernel_rfl) (by kernel_rfl) (fun _ _ _ h => h) (Or.inl ⟨by rfl, ?y11_12ax⟩) (fun _ => ⟨HC8.out.c0, HC8.out.c1⟩) ?r11_12ax
            case y11_12ax =>
              intro w hSw
              go_simp
              try with_reducible rfl
            try simp only [Act.put, List.setIfInBounds_toArray, List.set_cons_zero, List.set_cons_succ]
            refine wpAnyK_take (i := 12) (v := ?v12_13ax) rfl (by kernel_rfl) (by kernel_rfl) (by kernel_rfl) (by kernel_rfl) (fun _ _ _ h => h) (Or.inl ⟨by rfl, ?y12_13ax⟩) (fun _ => ⟨HC8.out.c0, HC8.out.c1⟩) ?r12_13ax
            case y12_13ax =>
              intro w hSw
              go_simp
              try with_reducible rfl
            try simp only [Act.put, List.setIfInBounds_toArray, List.set_cons_zero, List.set_cons_succ]
            refine wpAnyK_load (i := 13) [14, 15, 16, 17, 18, 19] (v := ?v13_14ax) rfl (by kernel_rfl) (by kernel_rfl) (by kernel_rfl) (by kernel_rfl) (by kernel_rfl) (fun _ _ _ h => h) (Or.inl ⟨by rfl, ?y13_14ax⟩) (fun _ => ⟨HC8.out.c0, HC8.out.c1⟩) ?r13_14ax
            case y13_14ax =>
              intro w hSw
              (try dsimp only at hSw)
              go_split_ands
              go_simp
              try with_reducible rfl
            try simp only [Act.put, List.setIfInBounds_toArray, List.set_cons_zero, List.set_cons_succ]
            refine wpAnyK_take (i := 14) (v := ?v14_15ax) rfl (by kernel_rfl) (by kernel_rfl) (by kernel_rfl) (by kernel_rfl) (fun _ _ _ h => h) (Or.inl ⟨by rfl, ?y14_15ax⟩) (fun _ => ⟨HC8.out.c0, HC8.out.c1⟩) ?r14_15ax
            case y14_15ax =>
              intro w hSw
              go_simp
              try with_reducible rfl
            try simp only [Act.put, List.setIfInBounds_toArray, List.set_cons_zero, List.set_cons_succ]
            refine wpAnyK_take (i := 15) (v := ?v15_16ax) rfl (by kernel_rfl) (by kernel_rfl) (by kernel_rfl) (by kernel_rfl) (fun _ _ _ h => h) (Or.inl ⟨by rfl, ?y15_16ax⟩) (fun _ => ⟨HC8.out.c0, HC8.out.c1⟩) ?r15_16ax
            case y15_16ax =>
              intro w hSw
              go_simp
              try with_reducible rfl
            try simp only [Act.put, List.setIfInBounds_toArray, List.set_cons_zero, List.set_cons_succ]
            refine wpAnyK_ready (rs := [16]) (by kernel_rfl) (by simp) ?_
            refine AllReadyK.cons (i := 16) rfl (fun K hK => ?_) ?_
            · go_simp
              go_at_call 84
              refine (clone_stp (l1.drop d) _ D (own_dropS HO8.out (by omega) (by omega)) (by simp; omega)).mono ?_
              rintro e w8 ⟨v8, rfl, ho8, hb8⟩
              have hln : (l1.drop d).length = most := by simp; omega
              rw [hln] at ho8
              obtain ⟨g8, o8, c8, rfl, hgb8, -, -, -⟩ := ho8.form' (by omega)
              have hlt8 := HC8.out.lt
              have HC8 := Lib.hid (HC8.out.below hb8)
              have HO9 := Lib.hid (ho8.mono HB8.out)
              have HK8 := Lib.hid (HK8.out.trans (Keeps.of_below hb8))
              have HN9 : Hid ((Value.slice (some ⟨g8, o8, none⟩) most c8).ownBlock ≠ some jb) := by intro e; have e2 : g8 = jb := Option.some.inj e; omega
              clear ho8 hb8
              dsimp only
              refine hK.out _ _ (fun _ => ⟨HC8.out.c0, HC8.out.c1⟩) ?_
              clear hK K
              try simp only [Act.put, List.setIfInBounds_toArray, List.set_cons_zero, List.set_cons_succ]
              refine wpAnyK_take (i := 17) (v := ?v17_17ax) rfl (by kernel_rfl) (by kernel_rfl) (by kernel_rfl) (by kernel_rfl) (fun _ _ _ h => h) (Or.inl ⟨by rfl, ?y17_17ax⟩) (fun _ => ⟨HC8.out.c0, HC8.out.c1⟩) ?r17_17ax
              case y17_17ax =>
                intro w hSw
                go_simp
                try with_reducible rfl
              try simp only [Act.put, List.setIfInBounds_toArray, List.set_cons_zero, List.set_cons_succ]
              refine wpAnyK_take (i := 18) (v := ?v18_18ax) rfl (by kernel_rfl) (by kernel_rfl) (by kernel_rfl) (by kernel_rfl) (fun _ _ _ h => h) (Or.inl ⟨by rfl, ?y18_18ax⟩) (fun _ => ⟨HC8.out.c0, HC8.out.c1⟩) ?r18_18ax
              case y18_18ax =>
                intro w hSw
                go_simp
                try with_reducible rfl
              try simp only [Act.put, List.setIfInBounds_toArray, List.set_cons_zero, List.set_cons_succ]
              refine wpAnyK_ready (rs := [19]) (by kernel_rfl) (by simp) ?_
              refine AllReadyK.cons (i := 19) rfl (fun K hK => ?_) ?_
              · have c1 := HC8.out.c1
                have f0 := HC8.out.f0
                go_simp
                refine hK.out _ _ (fun h => Bool.noConfusion ((show unl _ _ = false by kernel_rfl).symm.trans h)) ?_
                clear hK K
                try simp only [Act.put, List.setIfInBounds_toArray, List.set_cons_zero, List.set_cons_succ]
                refine wpAnyK_done (by kernel_rfl) ?_ _
                try simp only [Act.put, List.setIfInBounds_toArray, List.set_cons_zero, List.set_cons_succ]
                have hk9 := Keeps.setCell (F := fun k => k = jb) w8 (a := ⟨jb, 1, none⟩) rfl (.slice (some ⟨g8, o8, none⟩) most c8)
                have HC9 := Lib.hid (HC8.out.set1 (.slice (some ⟨g8, o8, none⟩) most c8))
                have HO9 := Lib.hid (HO9.out.keeps hk9 (fun k e _ hf => HN9.out (by rw [e, hf])))
                have HK9 := Lib.hid (HK8.out.step hk9 (fun j _ hf => .inl hf))
                obtain ⟨W4, hW4⟩ : ∃ W4, W4 = w8.setCell ⟨jb, 1, none⟩ (.slice (some ⟨g8, o8, none⟩) most c8) := ⟨_, rfl⟩
                rw [← hW4] at HC9 HO9 HK9 ⊢
                clear hW4 hk9 HC8 HK8
                have c1 := HC9.out.c1
                have c2 := HC9.out.c2
                have f0 := HC9.out.f0
                haveI : Old W4 jb := ⟨HC9.out.lt⟩
                have HKL := Lib.hid (show keepL most l1 = l1.drop d by unfold keepL; rw [show l1.length - most = d by omega])
                go_wp2
                go_end0
                rw [HKL.out]
                have hj2 := HC9.out.set2 most
                have hk2 := Keeps.setCell (F := fun k => k = jb) W4 (a := ⟨jb, 2, none⟩) rfl (.int .i64 (most : Int))
                have ho2 := HO9.out.keeps hk2 (fun k e _ hf => HN9.out (by rw [e, hf]))
                refine ⟨rfl, .slice (some ⟨g8, o8, none⟩) most c8, ?_, HK9.out.step hk2 (fun j _ hf => .inl hf)⟩
                have hln : (l1.drop d).length = most := by simp; omega
                rw [hln]
                exact hj2.jat (by rw [hln]; exact ho2) HN9.out (by omega)
              exact AllReadyK.nil
            exact AllReadyK.nil
          · have hb1 : decide (most < l0.length + 1) = false := no (by omega)
            have HKL := Lib.hid (show keepL most l1 = l1 by unfold keepL; rw [show l1.length - most = 0 by omega]; rfl)
            go_wp2
            (refine wp_region_grow (by kernel_rfl) (by kernel_rfl) ?_; (repeat (go_big_quiet_step (fail))); refine wpQuiet_nil ?_; intro _ hw'; obtain ⟨gq, hw''⟩ := hw'; subst hw'')
            go_wp2
            go_end0
            rw [HKL.out]
            have hj2 := HJ.out.set2 l1.length (Nat.le_refl _)
            have hk2 := Keeps.setCell (F := fun k => k = jb) W2 (a := ⟨jb, 2, none⟩) rfl (.int .i64 ((l1.length : Nat) : Int))
            rw [hcast] at hj2 hk2
            exact ⟨rfl, _, hj2.below (grow_below _ _), (HK.out.step hk2 (fun j _ hf => .inl hf)).trans (Keeps.of_below (grow_below _ _))⟩
        exact AllReadyK.nil
      exact AllReadyK.nil
    exact AllReadyK.nil
  | true =>
    have hpz : p = 0 := by simpa using hjn
    have hdp : decide (0 < p) = false := no (by omega)
    clear hpz
    clear hjn
    go_wp2
    generalize growSet gq ⟨jb, 1, none⟩ (.slice A p p) = g2
    have HO := Lib.hid ((HO1.out.keeps HKS.out (fun k e _ hf => HN.out (by rw [e, hf]))).below (grow_below _ g2))
    have HC := Lib.hid (HC1.out.below (grow_below _ g2))
    have HB := Lib.hid ((HB.out.keeps HKS.out hrj).keeps (Keeps.of_below (F := fun _ => False) (grow_below _ g2)) id)
    have HK := Lib.hid ((HK0.out.step HKS.out (fun j _ hf => .inl hf)).step (Keeps.of_below (F := fun _ => False) (grow_below _ g2)) (fun _ _ hf => hf.elim))
    generalize grow (W0.setCell ⟨jb, 1, none⟩ (.slice A p p)) g2 = W1 at *
    rw [stp_take] at HO
    have hl0 : (l.take p).length = p := by rw [List.length_take]; omega
    generalize l.take p = l0 at *
    clear c1 c2 f0 HO1 HC1 HKS H0 HK0
    obtain rfl : p = l0.length := hl0.symm
    have HC0 := Lib.hid HC.out.lt
    have hbw : b0 ≤ W1.heap.size := by have := HC.out.ge; have := HC.out.lt; omega
    haveI : Old W1 rb := ⟨HB.out.lt⟩
    haveI : Old W1 jb := ⟨HC.out.lt⟩
    refine wp_region_keyed (fun W => W.cell? ⟨jb, 1, none⟩ = some (.slice A l0.length l0.length) ∧ W.cell? ⟨rb, 0, none⟩ = some (.int .i64 s.ed.pos) ∧ W.cell? ⟨rb, 1, none⟩ = some (.string (B s.ed.del)) ∧ W.cell? ⟨rb, 2, none⟩ = some (.string (B s.ed.ins)) ∧ W.cell? ⟨rb, 3, none⟩ = some (.int .i64 s.ahead) ∧ W.cell? ⟨rb, 4, none⟩ = some (.int .i64 s.behind)) [10] (by kernel_rfl) ?_
    have HC := Lib.hid (HC.out.below (below_drew (Below.refl _ _)))
    have HB := Lib.hid (HB.out.keeps (Keeps.of_below (F := fun _ => False) (below_drew (Below.refl _ _))) id)
    have HO := Lib.hid (HO.out.below (below_drew (Below.refl _ _)))
    have HK := Lib.hid (HK.out.trans (Keeps.of_below (below_drew (Below.refl _ _))))
    have hDs : b0 ≤ W1.drew.heap.size := hbw
    generalize W1.drew = D at *
    refine wpAnyK_take (i := 0) (v := ?v0_1b) rfl (by kernel_rfl) (by kernel_rfl) (by kernel_rfl) (by kernel_rfl) (fun _ _ _ h => h) (Or.inl ⟨by rfl, ?y0_1b⟩) (fun _ => ⟨HC.out.c1, HB.out.c0, HB.out.c1, HB.out.c2, HB.out.c3, HB.out.c4⟩) ?r0_1b
    case y0_1b =>
      intro w hSw
      go_simp
      try with_reducible rfl
    try simp only [Act.put, List.setIfInBounds_toArray, List.set_cons_zero, List.set_cons_succ]
    refine wpAnyK_take (i := 1) (v := ?v1_2b) rfl (by kernel_rfl) (by kernel_rfl) (by kernel_rfl) (by kernel_rfl) (fun _ _ _ h => h) (Or.inl ⟨by rfl, ?y1_2b⟩) (fun _ => ⟨HC.out.c1, HB.out.c0, HB.out.c1, HB.out.c2, HB.out.c3, HB.out.c4⟩) ?r1_2b
    case y1_2b =>
      intro w hSw
      go_simp
      try with_reducible rfl
    try simp only [Act.put, List.setIfInBounds_toArray, List.set_cons_zero, List.set_cons_succ]
    refine wpAnyK_take (i := 2) (v := ?v2_3b) rfl (by kernel_rfl) (by kernel_rfl) (by kernel_rfl) (by kernel_rfl) (fun _ _ _ h => h) (Or.inl ⟨by rfl, ?y2_3b⟩) (fun _ => ⟨HC.out.c1, HB.out.c0, HB.out.c1, HB.out.c2, HB.out.c3, HB.out.c4⟩) ?r2_3b
    case y2_3b =>
      intro w hSw
      go_simp
      try with_reducible rfl
    try simp only [Act.put, List.setIfInBounds_toArray, List.set_cons_zero, List.set_cons_succ]
    refine wpAnyK_take (i := 3) (v := ?v3_4b) rfl (by kernel_rfl) (by kernel_rfl) (by kernel_rfl) (by kernel_rfl) (fun _ _ _ h => h) (Or.inl ⟨by rfl, ?y3_4b⟩) (fun _ => ⟨HC.out.c1, HB.out.c0, HB.out.c1, HB.out.c2, HB.out.c3, HB.out.c4⟩) ?r3_4b
    case y3_4b =>
      intro w hSw
      go_simp
      try with_reducible rfl
    try simp only [Act.put, List.setIfInBounds_toArray, List.set_cons_zero, List.set_cons_succ]
    refine wpAnyK_load (i := 4) [7, 8, 9, 10] (v := ?v4_5b) rfl (by kernel_rfl) (by kernel_rfl) (by kernel_rfl) (by kernel_rfl) (by kernel_rfl) (fun _ _ _ h => h) (Or.inl ⟨by rfl, ?y4_5b⟩) (fun _ => ⟨HC.out.c1, HB.out.c0, HB.out.c1, HB.out.c2, HB.out.c3, HB.out.c4⟩) ?r4_5b
    case y4_5b =>
      intro w hSw
      (try dsimp only at hSw)
      go_split_ands
      go_simp
      try with_reducible rfl
    try simp only [Act.put, List.setIfInBounds_toArray, List.set_cons_zero, List.set_cons_succ]
    refine wpAnyK_load (i := 5) [6, 7, 8, 9, 10] (v := ?v5_6b) rfl (by kernel_rfl) (by kernel_rfl) (by kernel_rfl) (by kernel_rfl) (by kernel_rfl) (fun _ _ _ h => h) (Or.inl ⟨by rfl, ?y5_6b⟩) (fun _ => ⟨HC.out.c1, HB.out.c0, HB.out.c1, HB.out.c2, HB.out.c3, HB.out.c4⟩) ?r5_6b
    case y5_6b =>
      intro w hSw
      (try dsimp only at hSw)
      go_split_ands
      go_simp
      try with_reducible rfl
    try simp only [Act.put, List.setIfInBounds_toArray, List.set_cons_zero, List.set_cons_succ]
    refine wpAnyK_ready (rs := [6]) (by kernel_rfl) (by simp) ?_
    refine AllReadyK.cons (i := 6) rfl (fun K hK => ?_) ?_
    · go_simp
      have HC := Lib.hid (HC.out.below (below_alloc (Below.refl _ _) (.cells #[.int .i64 s.ed.pos, .string (B s.ed.del), .string (B s.ed.ins), .int .i64 s.ahead, .int .i64 s.behind] 89)))
      have HB := Lib.hid (HB.out.keeps (Keeps.of_below (F := fun _ => False) (below_alloc (Below.refl _ _) (.cells #[.int .i64 s.ed.pos, .string (B s.ed.del), .string (B s.ed.ins), .int .i64 s.ahead, .int .i64 s.behind] 89))) id)
      have HK := Lib.hid (HK.out.trans (Keeps.of_below (below_alloc (Below.refl _ _) (.cells #[.int .i64 s.ed.pos, .string (B s.ed.del), .string (B s.ed.ins), .int .i64 s.ahead, .int .i64 s.behind] 89))))
      refine hK.out _ _ (fun _ => ⟨HC.out.c1, HB.out.c0, HB.out.c1, HB.out.c2, HB.out.c3, HB.out.c4⟩) ?_
      clear hK K
      try simp only [Act.put, List.setIfInBounds_toArray, List.set_cons_zero, List.set_cons_succ]
      refine wpAnyK_ready (rs := [7]) (by kernel_rfl) (by simp) ?_
      refine AllReadyK.cons (i := 7) rfl (fun K hK => ?_) ?_
      · (refine step_append_src _ rfl (.tmp 74) (.tmp 76) _ rfl b0 89 i5 _ 5 56 Try.underlying87 hi5 hz50 hz51 hz52 rfl (by decide) _ l0.length (l0.flatMap Stp.cells) rfl (HO.out.below (below_alloc (Below.refl _ _) _)) _ 1 (Stp.cells s) rfl rfl (by refine src_one _ _ _ _ _ ?_; first | rfl | (simp; done) | omega | (simp; omega)) (by simp [Stp.cells, Value.oneCell']) (by unfold maxLen; omega) (by omega) (by first | (simp; done) | omega | (simp; omega)) ?_; intro v7 w7 hown7 hg7 hat7 hty7; have HTY7 := Lib.hid hty7; clear hty7)
        have hlt7 := HC.out.lt
        have HC := Lib.hid (HC.out.keeps hg7 (fun hf => HN.out hf.1))
        have HB := Lib.hid (HB.out.keeps hg7 (fun hf => HNR.out hf.1))
        have HK := Lib.hid (HK.out.step hg7 (fun j _ hf => .inr ⟨HLV.out j hf.1, hf.2⟩))
        have HO7 := Lib.hid (own_snocS hown7)
        have HN7 : Hid (v7.ownBlock ≠ some jb) := by
          intro e
          rcases hat7 with e1 | e1
          · exact HN.out (e1 ▸ e)
          · have := e1 _ e; omega
        obtain ⟨g7, o7, c7, rfl, -, -, -, -⟩ := hown7.form
        clear hown7 hg7 hat7
        refine hK.out _ _ (fun _ => ⟨HC.out.c1, HB.out.c0, HB.out.c1, HB.out.c2, HB.out.c3, HB.out.c4⟩) ?_
        clear hK K
        try simp only [Act.put, List.setIfInBounds_toArray, List.set_cons_zero, List.set_cons_succ]
        refine wpAnyK_take (i := 8) (v := ?v8_7b) rfl (by kernel_rfl) (by kernel_rfl) (by kernel_rfl) (by kernel_rfl) (fun _ _ _ h => h) (Or.inl ⟨by rfl, ?y8_7b⟩) (fun _ => ⟨HC.out.c1, HB.out.c0, HB.out.c1, HB.out.c2, HB.out.c3, HB.out.c4⟩) ?r8_7b
        case y8_7b =>
          intro w hSw
          go_simp
          try with_reducible rfl
        try simp only [Act.put, List.setIfInBounds_toArray, List.set_cons_zero, List.set_cons_succ]
        refine wpAnyK_take (i := 9) (v := ?v9_8b) rfl (by kernel_rfl) (by kernel_rfl) (by kernel_rfl) (by kernel_rfl) (fun _ _ _ h => h) (Or.inl ⟨by rfl, ?y9_8b⟩) (fun _ => ⟨HC.out.c1, HB.out.c0, HB.out.c1, HB.out.c2, HB.out.c3, HB.out.c4⟩) ?r9_8b
        case y9_8b =>
          intro w hSw
          go_simp
          try with_reducible rfl
        try simp only [Act.put, List.setIfInBounds_toArray, List.set_cons_zero, List.set_cons_succ]
        refine wpAnyK_ready (rs := [10]) (by kernel_rfl) (by simp) ?_
        refine AllReadyK.cons (i := 10) rfl (fun K hK => ?_) ?_
        · have c1 := HC.out.c1
          have f0 := HC.out.f0
          go_simp
          refine hK.out _ _ (fun h => Bool.noConfusion ((show unl _ _ = false by kernel_rfl).symm.trans h)) ?_
          clear hK K
          try simp only [Act.put, List.setIfInBounds_toArray, List.set_cons_zero, List.set_cons_succ]
          refine wpAnyK_done (by kernel_rfl) ?_ _
          have HJ : Hid (JAt (w7.setCell ⟨jb, 1, none⟩ (.slice (some ⟨g7, o7, none⟩) (l0.length + 1) c7)) b0 jb (.slice (some ⟨g7, o7, none⟩) (l0.length + 1) c7) most (l0 ++ [s]) l0.length) := JC.jat (HC.out.set1 (.slice (some ⟨g7, o7, none⟩) (l0.length + 1) c7)) (HO7.out.keeps (Keeps.setCell (F := fun k => k = jb) w7 (a := ⟨jb, 1, none⟩) rfl (.slice (some ⟨g7, o7, none⟩) (l0.length + 1) c7)) (fun k e _ hf => HN7.out (by rw [e, hf]))) HN7.out (by simp)
          have HK := Lib.hid (HK.out.step (Keeps.setCell (F := fun k => k = jb) w7 (a := ⟨jb, 1, none⟩) rfl (.slice (some ⟨g7, o7, none⟩) (l0.length + 1) c7)) (fun j _ hf => .inl hf))
          try simp only [Act.put, List.setIfInBounds_toArray, List.set_cons_zero, List.set_cons_succ]
          obtain ⟨W2, hW2⟩ : ∃ W2, W2 = w7.setCell ⟨jb, 1, none⟩ (.slice (some ⟨g7, o7, none⟩) (l0.length + 1) c7) := ⟨_, rfl⟩
          rw [← hW2] at HJ HK ⊢
          clear hW2 HC HB HO HO7
          have hlen7 : (l0 ++ [s]).length = l0.length + 1 := by simp
          generalize hl1 : l0 ++ [s] = l1 at *
          obtain ⟨g, off, c, e, hgb, hg, hcl, hcm⟩ := HJ.out.own.form' (by omega)
          injection e with e1 e2 e3
          injection e1 with e1
          cases e1
          subst e3
          clear e2
          have c0 := HJ.out.c0
          have c1 := HJ.out.c1
          have c2 := HJ.out.c2
          have f0 := HJ.out.f0
          haveI : Old W2 jb := ⟨HJ.out.lt⟩
          have hcast : ((l1.length : Nat) : Int) = (l0.length : Int) + 1 := by omega
          by_cases hbig : most < l1.length
          · have hb1 : decide (most < l0.length + 1) = true := decide_eq_true (by omega)
            go_wp2
            (refine wp_region_grow (by kernel_rfl) (by kernel_rfl) ?_; (repeat (go_big_quiet_step (fail))); refine wpQuiet_nil ?_; intro _ hw'; obtain ⟨gq, hw''⟩ := hw'; subst hw'')
            go_wp2
            obtain ⟨d, hd⟩ : ∃ d, l0.length + 1 = d + most := ⟨l0.length + 1 - most, by omega⟩
            have hd2 : (l0.length : Int) + 1 - (most : Int) = (d : Int) := by omega
            have hw : IntKind.i64.wrap ((l0.length : Int) + 1 - (most : Int)) = (d : Int) := by rw [hd2]; exact IntWalk.i64_in _ (by omega)
            have hdc : (d : Int) ≤ (c7 : Int) := by omega
            have hd0 : (0 : Int) ≤ (d : Int) := by omega
            have hwd : IntKind.i64.wrap (d : Int) = (d : Int) := IntWalk.i64_in _ (by omega)
            have hcne : ¬ c7 = d := by omega
            have hdm : (d : Int) ≤ (d : Int) + (most : Int) := by omega
            refine wp_region_keyed (fun W => W.cell? ⟨jb, 0, none⟩ = some (.int .i64 most) ∧ W.cell? ⟨jb, 1, none⟩ = some (.slice (some ⟨g7, o7, none⟩) (l0.length + 1) c7)) [19] (by kernel_rfl) ?_
            have HC8 := Lib.hid (HJ.out.jc.below (below_drew (grow_below W2 gq)))
            have HO8 := Lib.hid (HJ.out.own.below (below_drew (grow_below W2 gq)))
            have HK8 := Lib.hid (HK.out.trans (Keeps.of_below (below_drew (grow_below W2 gq))))
            have HB8 : Hid (b0 ≤ (grow W2 gq).drew.heap.size) := by have := HC8.out.ge; have := HC8.out.lt; show _ ≤ _; omega
            generalize (grow W2 gq).drew = D at *
            refine wpAnyK_take (i := 0) (v := ?v0_1bx) rfl (by kernel_rfl) (by kernel_rfl) (by kernel_rfl) (by kernel_rfl) (fun _ _ _ h => h) (Or.inl ⟨by rfl, ?y0_1bx⟩) (fun _ => ⟨HC8.out.c0, HC8.out.c1⟩) ?r0_1bx
            case y0_1bx =>
              intro w hSw
              go_simp
              try with_reducible rfl
            try simp only [Act.put, List.setIfInBounds_toArray, List.set_cons_zero, List.set_cons_succ]
            refine wpAnyK_take (i := 1) (v := ?v1_2bx) rfl (by kernel_rfl) (by kernel_rfl) (by kernel_rfl) (by kernel_rfl) (fun _ _ _ h => h) (Or.inl ⟨by rfl, ?y1_2bx⟩) (fun _ => ⟨HC8.out.c0, HC8.out.c1⟩) ?r1_2bx
            case y1_2bx =>
              intro w hSw
              go_simp
              try with_reducible rfl
            try simp only [Act.put, List.setIfInBounds_toArray, List.set_cons_zero, List.set_cons_succ]
            refine wpAnyK_take (i := 2) (v := ?v2_3bx) rfl (by kernel_rfl) (by kernel_rfl) (by kernel_rfl) (by kernel_rfl) (fun _ _ _ h => h) (Or.inl ⟨by rfl, ?y2_3bx⟩) (fun _ => ⟨HC8.out.c0, HC8.out.c1⟩) ?r2_3bx
            case y2_3bx =>
              intro w hSw
              go_simp
              try with_reducible rfl
            try simp only [Act.put, List.setIfInBounds_toArray, List.set_cons_zero, List.set_cons_succ]
            refine wpAnyK_take (i := 3) (v := ?v3_4bx) rfl (by kernel_rfl) (by kernel_rfl) (by kernel_rfl) (by kernel_rfl) (fun _ _ _ h => h) (Or.inl ⟨by rfl, ?y3_4bx⟩) (fun _ => ⟨HC8.out.c0, HC8.out.c1⟩) ?r3_4bx
            case y3_4bx =>
              intro w hSw
              go_simp
              try with_reducible rfl
            try simp only [Act.put, List.setIfInBounds_toArray, List.set_cons_zero, List.set_cons_succ]
            refine wpAnyK_load (i := 4) [15, 16, 17, 18, 19] (v := ?v4_5bx) rfl (by kernel_rfl) (by kernel_rfl) (by kernel_rfl) (by kernel_rfl) (by kernel_rfl) (fun _ _ _ h => h) (Or.inl ⟨by rfl, ?y4_5bx⟩) (fun _ => ⟨HC8.out.c0, HC8.out.c1⟩) ?r4_5bx
            case y4_5bx =>
              intro w hSw
              (try dsimp only at hSw)
              go_split_ands
              go_simp
              try with_reducible rfl
            try simp only [Act.put, List.setIfInBounds_toArray, List.set_cons_zero, List.set_cons_succ]
            refine wpAnyK_take (i := 5) (v := ?v5_6bx) rfl (by kernel_rfl) (by kernel_rfl) (by kernel_rfl) (by kernel_rfl) (fun _ _ _ h => h) (Or.inl ⟨by rfl, ?y5_6bx⟩) (fun _ => ⟨HC8.out.c0, HC8.out.c1⟩) ?r5_6bx
            case y5_6bx =>
              intro w hSw
              go_simp
              try with_reducible rfl
            try simp only [Act.put, List.setIfInBounds_toArray, List.set_cons_zero, List.set_cons_succ]
            refine wpAnyK_take (i := 6) (v := ?v6_7bx) rfl (by kernel_rfl) (by kernel_rfl) (by kernel_rfl) (by kernel_rfl) (fun _ _ _ h => h) (Or.inl ⟨by rfl, ?y6_7bx⟩) (fun _ => ⟨HC8.out.c0, HC8.out.c1⟩) ?r6_7bx
            case y6_7bx =>
              intro w hSw
              go_simp
              try with_reducible rfl
            try simp only [Act.put, List.setIfInBounds_toArray, List.set_cons_zero, List.set_cons_succ]
            refine wpAnyK_take (i := 7) (v := ?v7_8bx) rfl (by kernel_rfl) (by kernel_rfl) (by kernel_rfl) (by kernel_rfl) (fun _ _ _ h => h) (Or.inl ⟨by rfl, ?y7_8bx⟩) (fun _ => ⟨HC8.out.c0, HC8.out.c1⟩) ?r7_8bx
            case y7_8bx =>
              intro w hSw
              go_simp
              try with_reducible rfl
            try simp only [Act.put, List.setIfInBounds_toArray, List.set_cons_zero, List.set_cons_succ]
            refine wpAnyK_load (i := 8) [9, 14, 15, 16, 17, 18, 19] (v := ?v8_9bx) rfl (by kernel_rfl) (by kernel_rfl) (by kernel_rfl) (by kernel_rfl) (by kernel_rfl) (fun _ _ _ h => h) (Or.inl ⟨by rfl, ?y8_9bx⟩) (fun _ => ⟨HC8.out.c0, HC8.out.c1⟩) ?r8_9bx
            case y8_9bx =>
              intro w hSw
              (try dsimp only at hSw)
              go_split_ands
              go_simp
              try with_reducible rfl
            try simp only [Act.put, List.setIfInBounds_toArray, List.set_cons_zero, List.set_cons_succ]
            refine wpAnyK_take (i := 9) (v := ?v9_10bx) rfl (by kernel_rfl) (by kernel_rfl) (by kernel_rfl) (by kernel_rfl) (fun _ _ _ h => h) (Or.inl ⟨by rfl, ?y9_10bx⟩) (fun _ => ⟨HC8.out.c0, HC8.out.c1⟩) ?r9_10bx
            case y9_10bx =>
              intro w hSw
              go_simp
              try with_reducible rfl
            try simp only [Act.put, List.setIfInBounds_toArray, List.set_cons_zero, List.set_cons_succ]
            refine wpAnyK_take (i := 10) (v := ?v10_11bx) rfl (by kernel_rfl) (by kernel_rfl) (by kernel_rfl) (by kernel_rfl) (fun _ _ _ h => h) (Or.inl ⟨by rfl, ?y10_11bx⟩) (fun _ => ⟨HC8.out.c0, HC8.out.c1⟩) ?r10_11bx
            case y10_11bx =>
              intro w hSw
              go_simp
              try with_reducible rfl
            try simp only [Act.put, List.setIfInBounds_toArray, List.set_cons_zero, List.set_cons_succ]
            refine wpAnyK_take (i := 11) (v := ?v11_12bx) rfl (by kernel_rfl) (by kernel_rfl) (by kernel_rfl) (by kernel_rfl) (fun _ _ _ h => h) (Or.inl ⟨by rfl, ?y11_12bx⟩) (fun _ => ⟨HC8.out.c0, HC8.out.c1⟩) ?r11_12bx
            case y11_12bx =>
              intro w hSw
              go_simp
              try with_reducible rfl
            try simp only [Act.put, List.setIfInBounds_toArray, List.set_cons_zero, List.set_cons_succ]
            refine wpAnyK_take (i := 12) (v := ?v12_13bx) rfl (by kernel_rfl) (by kernel_rfl) (by kernel_rfl) (by kernel_rfl) (fun _ _ _ h => h) (Or.inl ⟨by rfl, ?y12_13bx⟩) (fun _ => ⟨HC8.out.c0, HC8.out.c1⟩) ?r12_13bx
            case y12_13bx =>
              intro w hSw
              go_simp
              try with_reducible rfl
            try simp only [Act.put, List.setIfInBounds_toArray, List.set_cons_zero, List.set_cons_succ]
            refine wpAnyK_load (i := 13) [14, 15, 16, 17, 18, 19] (v := ?v13_14bx) rfl (by kernel_rfl) (by kernel_rfl) (by kernel_rfl) (by kernel_rfl) (by kernel_rfl) (fun _ _ _ h => h) (Or.inl ⟨by rfl, ?y13_14bx⟩) (fun _ => ⟨HC8.out.c0, HC8.out.c1⟩) ?r13_14bx
            case y13_14bx =>
              intro w hSw
              (try dsimp only at hSw)
              go_split_ands
              go_simp
              try with_reducible rfl
            try simp only [Act.put, List.setIfInBounds_toArray, List.set_cons_zero, List.set_cons_succ]
            refine wpAnyK_take (i := 14) (v := ?v14_15bx) rfl (by kernel_rfl) (by kernel_rfl) (by kernel_rfl) (by kernel_rfl) (fun _ _ _ h => h) (Or.inl ⟨by rfl, ?y14_15bx⟩) (fun _ => ⟨HC8.out.c0, HC8.out.c1⟩) ?r14_15bx
            case y14_15bx =>
              intro w hSw
              go_simp
              try with_reducible rfl
            try simp only [Act.put, List.setIfInBounds_toArray, List.set_cons_zero, List.set_cons_succ]
            refine wpAnyK_take (i := 15) (v := ?v15_16bx) rfl (by kernel_rfl) (by kernel_rfl) (by kernel_rfl) (by kernel_rfl) (fun _ _ _ h => h) (Or.inl ⟨by rfl, ?y15_16bx⟩) (fun _ => ⟨HC8.out.c0, HC8.out.c1⟩) ?r15_16bx
            case y15_16bx =>
              intro w hSw
              go_simp
              try with_reducible rfl
            try simp only [Act.put, List.setIfInBounds_toArray, List.set_cons_zero, List.set_cons_succ]
            refine wpAnyK_ready (rs := [16]) (by kernel_rfl) (by simp) ?_
            refine AllReadyK.cons (i := 16) rfl (fun K hK => ?_) ?_
            · go_simp
              go_at_call 84
              refine (clone_stp (l1.drop d) _ D (own_dropS HO8.out (by omega) (by omega)) (by simp; omega)).mono ?_
              rintro e w8 ⟨v8, rfl, ho8, hb8⟩
              have hln : (l1.drop d).length = most := by simp; omega
              rw [hln] at ho8
              obtain ⟨g8, o8, c8, rfl, hgb8, -, -, -⟩ := ho8.form' (by omega)
              have hlt8 := HC8.out.lt
              have HC8 := Lib.hid (HC8.out.below hb8)
              have HO9 := Lib.hid (ho8.mono HB8.out)
              have HK8 := Lib.hid (HK8.out.trans (Keeps.of_below hb8))
              have HN9 : Hid ((Value.slice (some ⟨g8, o8, none⟩) most c8).ownBlock ≠ some jb) := by intro e; have e2 : g8 = jb := Option.some.inj e; omega
              clear ho8 hb8
              dsimp only
              refine hK.out _ _ (fun _ => ⟨HC8.out.c0, HC8.out.c1⟩) ?_
              clear hK K
              try simp only [Act.put, List.setIfInBounds_toArray, List.set_cons_zero, List.set_cons_succ]
              refine wpAnyK_take (i := 17) (v := ?v17_17bx) rfl (by kernel_rfl) (by kernel_rfl) (by kernel_rfl) (by kernel_rfl) (fun _ _ _ h => h) (Or.inl ⟨by rfl, ?y17_17bx⟩) (fun _ => ⟨HC8.out.c0, HC8.out.c1⟩) ?r17_17bx
              case y17_17bx =>
                intro w hSw
                go_simp
                try with_reducible rfl
              try simp only [Act.put, List.setIfInBounds_toArray, List.set_cons_zero, List.set_cons_succ]
              refine wpAnyK_take (i := 18) (v := ?v18_18bx) rfl (by kernel_rfl) (by kernel_rfl) (by kernel_rfl) (by kernel_rfl) (fun _ _ _ h => h) (Or.inl ⟨by rfl, ?y18_18bx⟩) (fun _ => ⟨HC8.out.c0, HC8.out.c1⟩) ?r18_18bx
              case y18_18bx =>
                intro w hSw
                go_simp
                try with_reducible rfl
              try simp only [Act.put, List.setIfInBounds_toArray, List.set_cons_zero, List.set_cons_succ]
              refine wpAnyK_ready (rs := [19]) (by kernel_rfl) (by simp) ?_
              refine AllReadyK.cons (i := 19) rfl (fun K hK => ?_) ?_
              · have c1 := HC8.out.c1
                have f0 := HC8.out.f0
                go_simp
                refine hK.out _ _ (fun h => Bool.noConfusion ((show unl _ _ = false by kernel_rfl).symm.trans h)) ?_
                clear hK K
                try simp only [Act.put, List.setIfInBounds_toArray, List.set_cons_zero, List.set_cons_succ]
                refine wpAnyK_done (by kernel_rfl) ?_ _
                try simp only [Act.put, List.setIfInBounds_toArray, List.set_cons_zero, List.set_cons_succ]
                have hk9 := Keeps.setCell (F := fun k => k = jb) w8 (a := ⟨jb, 1, none⟩) rfl (.slice (some ⟨g8, o8, none⟩) most c8)
                have HC9 := Lib.hid (HC8.out.set1 (.slice (some ⟨g8, o8, none⟩) most c8))
                have HO9 := Lib.hid (HO9.out.keeps hk9 (fun k e _ hf => HN9.out (by rw [e, hf])))
                have HK9 := Lib.hid (HK8.out.step hk9 (fun j _ hf => .inl hf))
                obtain ⟨W4, hW4⟩ : ∃ W4, W4 = w8.setCell ⟨jb, 1, none⟩ (.slice (some ⟨g8, o8, none⟩) most c8) := ⟨_, rfl⟩
                rw [← hW4] at HC9 HO9 HK9 ⊢
                clear hW4 hk9 HC8 HK8
                have c1 := HC9.out.c1
                have c2 := HC9.out.c2
                have f0 := HC9.out.f0
                haveI : Old W4 jb := ⟨HC9.out.lt⟩
                have HKL := Lib.hid (show keepL most l1 = l1.drop d by unfold keepL; rw [show l1.length - most = d by omega])
                go_wp2
                go_end0
                rw [HKL.out]
                have hj2 := HC9.out.set2 most
                have hk2 := Keeps.setCell (F := fun k => k = jb) W4 (a := ⟨jb, 2, none⟩) rfl (.int .i64 (most : Int))
                have ho2 := HO9.out.keeps hk2 (fun k e _ hf => HN9.out (by rw [e, hf]))
                refine ⟨rfl, .slice (some ⟨g8, o8, none⟩) most c8, ?_, HK9.out.step hk2 (fun j _ hf => .inl hf)⟩
                have hln : (l1.drop d).length = most := by simp; omega
                rw [hln]
                exact hj2.jat (by rw [hln]; exact ho2) HN9.out (by omega)
              exact AllReadyK.nil
            exact AllReadyK.nil
          · have hb1 : decide (most < l0.length + 1) = false := no (by omega)
            have HKL := Lib.hid (show keepL most l1 = l1 by unfold keepL; rw [show l1.length - most = 0 by omega]; rfl)
            go_wp2
            (refine wp_region_grow (by kernel_rfl) (by kernel_rfl) ?_; (repeat (go_big_quiet_step (fail))); refine wpQuiet_nil ?_; intro _ hw'; obtain ⟨gq, hw''⟩ := hw'; subst hw'')
            go_wp2
            go_end0
            rw [HKL.out]
            have hj2 := HJ.out.set2 l1.length (Nat.le_refl _)
            have hk2 := Keeps.setCell (F := fun k => k = jb) W2 (a := ⟨jb, 2, none⟩) rfl (.int .i64 ((l1.length : Nat) : Int))
            rw [hcast] at hj2 hk2
            exact ⟨rfl, _, hj2.below (grow_below _ _), (HK.out.step hk2 (fun j _ hf => .inl hf)).trans (Keeps.of_below (grow_below _ _))⟩
        exact AllReadyK.nil
      exact AllReadyK.nil
    exact AllReadyK.nil
end Go.Proofs.Ytkinjjgaecbogaa
