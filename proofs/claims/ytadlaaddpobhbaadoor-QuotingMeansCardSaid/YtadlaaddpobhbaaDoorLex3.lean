/-
  The walks of layer 9's reference (token), on: a newline, an operator, a word, from a state in which nothing is awaited. Conditions: texts of at most 2^29 bytes.
-/
import Derived.Test.YtadlaaddpobhbaaDoorLex2
namespace Go.Proofs.YtadlaaddpobhbaaDoor.Lx
open Go.ChangeShapes Go.WideShapes Go.Deep Go.RowKit Cls Md
set_option maxRecDepth 100000
set_option maxHeartbeats 2000000 in
theorem step_line (s : List UInt8) (a : Nat) (w : World) (hs : s.length ≤ 536870912) (ha : a < s.length) (hb : blankN (s.drop a) = 0) (hc : s[a] = 10) : Calls Tryd.prog 29 #[.string (B s), .int .i64 a, lex0] w (StepP 2 a (a + 1) false w) := by
  have HB := Lib.hid fun w => blank_any s a w hs (by omega)
  rw [hb, Nat.add_zero] at HB
  unfold lex0
  have h0 : (0 : Int) ≤ (a : Int) := by omega
  have h1 : (a : Int) < (s.length : Int) := by omega
  have e10 := Pat.is_b (n := 10) rfl hc
  obtain ⟨m, hm⟩ : ∃ m, m = a + 1 := ⟨_, rfl⟩
  rw [← hm]
  have i1 : (a : Int) + 1 = (m : Int) := by omega
  have i2 : IntKind.i64.wrap (m : Int) = (m : Int) := by rw [IntKind.wrap_i64]; omega
  clear hb hc hm
  have hf := SFr.new w 30 34 30
  have HX := Lib.hid hf.bx
  have HT := Lib.hid hf.tk
  have HL := Lib.hid hf.lx
  have HBE := Lib.hid hf.be
  clear hf
  go_enter Tryd.func29, Tryd.ntmps29
  go_wp2_with (go_at_call 47; refine (HB.out _).mono ?_; rintro e w' ⟨rfl, rfl⟩)
  refine wp_region_keyed (fun W => W.cell? ⟨w.heap.size, 0, none⟩ = some (.int .i64 0) ∧ W.cell? ⟨w.heap.size, 1, none⟩ = some (.slice none 0 0) ∧ W.cell? ⟨w.heap.size, 2, none⟩ = some (.bool false)) [12] (by kernel_rfl) ?_
  have HX := Lib.hid (HX.out.below (below_drew (Below.refl _ _)))
  have HT := Lib.hid (HT.out.below (below_drew (Below.refl _ _)))
  have HL := Lib.hid (HL.out.below (below_drew (Below.refl _ _)))
  have HBE := Lib.hid (below_drew HBE.out)
  generalize World.drew _ = D at *
  refine wpAnyK_take2 (i := 0) (some 61) (v := ?v0_1z13) rfl rfl (by kernel_rfl) (by kernel_rfl) (by kernel_rfl) (by kernel_rfl) (fun _ _ _ h => h) (Or.inl ⟨by rfl, ?y0_1z13⟩) (fun _ => (box3 HX.out).1) ?r0_1z13
  case y0_1z13 =>
    intro w hSw
    go_simp
    try with_reducible rfl
  try simp only [Act.put, List.setIfInBounds_toArray, List.set_cons_zero, List.set_cons_succ]
  refine wpAnyK_take2 (i := 1) (some 62) (v := ?v1_2z13) rfl rfl (by kernel_rfl) (by kernel_rfl) (by kernel_rfl) (by kernel_rfl) (fun _ _ _ h => h) (Or.inl ⟨by rfl, ?y1_2z13⟩) (fun _ => (box3 HX.out).1) ?r1_2z13
  case y1_2z13 =>
    intro w hSw
    go_simp
    try with_reducible rfl
  try simp only [Act.put, List.setIfInBounds_toArray, List.set_cons_zero, List.set_cons_succ]
  refine wpAnyK_take2 (i := 2) (some 63) (v := ?v2_3z13) rfl rfl (by kernel_rfl) (by kernel_rfl) (by kernel_rfl) (by kernel_rfl) (fun _ _ _ h => h) (Or.inl ⟨by rfl, ?y2_3z13⟩) (fun _ => (box3 HX.out).1) ?r2_3z13
  case y2_3z13 =>
    intro w hSw
    go_simp
    try with_reducible rfl
  try simp only [Act.put, List.setIfInBounds_toArray, List.set_cons_zero, List.set_cons_succ]
  refine wpAnyK_take2 (i := 3) (some 64) (v := ?v3_4z13) rfl rfl (by kernel_rfl) (by kernel_rfl) (by kernel_rfl) (by kernel_rfl) (fun _ _ _ h => h) (Or.inl ⟨by rfl, ?y3_4z13⟩) (fun _ => (box3 HX.out).1) ?r3_4z13
  case y3_4z13 =>
    intro w hSw
    go_simp
    try with_reducible rfl
  try simp only [Act.put, List.setIfInBounds_toArray, List.set_cons_zero, List.set_cons_succ]
  refine wpAnyK_take2 (i := 4) (some 65) (v := ?v4_5z13) rfl rfl (by kernel_rfl) (by kernel_rfl) (by kernel_rfl) (by kernel_rfl) (fun _ _ _ h => h) (Or.inl ⟨by rfl, ?y4_5z13⟩) (fun _ => (box3 HX.out).1) ?r4_5z13
  case y4_5z13 =>
    intro w hSw
    go_simp
    try with_reducible rfl
  try simp only [Act.put, List.setIfInBounds_toArray, List.set_cons_zero, List.set_cons_succ]
  refine wpAnyK_load2 (i := 5) [10, 12] (some 66) (v := ?v5_6z13) rfl rfl (by kernel_rfl) (by kernel_rfl) (by kernel_rfl) (by kernel_rfl) (by kernel_rfl) (fun _ _ _ h => h) (Or.inl ⟨by rfl, ?y5_6z13⟩) (fun _ => (box3 HX.out).1) ?r5_6z13
  case y5_6z13 =>
    intro w hSw
    (try dsimp only at hSw)
    go_split_ands
    go_simp
    try with_reducible rfl
  try simp only [Act.put, List.setIfInBounds_toArray, List.set_cons_zero, List.set_cons_succ]
  refine wpAnyK_take2 (i := 6) (some 67) (v := ?v6_7z13) rfl rfl (by kernel_rfl) (by kernel_rfl) (by kernel_rfl) (by kernel_rfl) (fun _ _ _ h => h) (Or.inl ⟨by rfl, ?y6_7z13⟩) (fun _ => (box3 HX.out).1) ?r6_7z13
  case y6_7z13 =>
    intro w hSw
    go_simp
    try with_reducible rfl
  try simp only [Act.put, List.setIfInBounds_toArray, List.set_cons_zero, List.set_cons_succ]
  refine wpAnyK_load2 (i := 7) [8, 9, 10, 12] (some 68) (v := ?v7_8z13) rfl rfl (by kernel_rfl) (by kernel_rfl) (by kernel_rfl) (by kernel_rfl) (by kernel_rfl) (fun _ _ _ h => h) (Or.inl ⟨by rfl, ?y7_8z13⟩) (fun _ => (box3 HX.out).1) ?r7_8z13
  case y7_8z13 =>
    intro w hSw
    (try dsimp only at hSw)
    go_split_ands
    go_simp
    try with_reducible rfl
  try simp only [Act.put, List.setIfInBounds_toArray, List.set_cons_zero, List.set_cons_succ]
  refine wpAnyK_take2 (i := 8) (some 69) (v := ?v8_9z13) rfl rfl (by kernel_rfl) (by kernel_rfl) (by kernel_rfl) (by kernel_rfl) (fun _ _ _ h => h) (Or.inl ⟨by rfl, ?y8_9z13⟩) (fun _ => (box3 HX.out).1) ?r8_9z13
  case y8_9z13 =>
    intro w hSw
    go_simp
    try with_reducible rfl
  try simp only [Act.put, List.setIfInBounds_toArray, List.set_cons_zero, List.set_cons_succ]
  refine wpAnyK_take2 (i := 9) (some 70) (v := ?v9_10z13) rfl rfl (by kernel_rfl) (by kernel_rfl) (by kernel_rfl) (by kernel_rfl) (fun _ _ _ h => h) (Or.inl ⟨by rfl, ?y9_10z13⟩) (fun _ => (box3 HX.out).1) ?r9_10z13
  case y9_10z13 =>
    intro w hSw
    go_simp
    try with_reducible rfl
  try simp only [Act.put, List.setIfInBounds_toArray, List.set_cons_zero, List.set_cons_succ]
  refine wpAnyK_take2 (i := 10) (some 71) (v := ?v10_11z13) rfl rfl (by kernel_rfl) (by kernel_rfl) (by kernel_rfl) (by kernel_rfl) (fun _ _ _ h => h) (Or.inl ⟨by rfl, ?y10_11z13⟩) (fun _ => (box3 HX.out).1) ?r10_11z13
  case y10_11z13 =>
    intro w hSw
    go_simp
    try with_reducible rfl
  try simp only [Act.put, List.setIfInBounds_toArray, List.set_cons_zero, List.set_cons_succ]
  refine wpAnyK_ready (rs := [11]) (by kernel_rfl) (by simp) ?_
  refine AllReadyK.cons (i := 11) rfl (fun K hK => ?_) ?_
  · obtain ⟨⟨r0, r1, r2, r3⟩, q0, q1, q2, q3⟩ := box4 HT.out
    go_simp
    have hk4 := keeps_set4 D (w.heap.size + 1) (.int .i64 2) (.int .i64 a) (.int .i64 m) (.bool false)
    have HX := Lib.hid (HX.out.keeps hk4 (by omega))
    have HT := Lib.hid (box_set4 HT.out (.int .i64 2) (.int .i64 a) (.int .i64 m) (.bool false))
    have HL := Lib.hid (HL.out.keeps hk4 (by omega))
    have HBE := Lib.hid (below_keeps HBE.out hk4 (fun k e => by omega))
    clear hk4 r0 r1 r2 r3 q0 q1 q2 q3
    generalize World.setCell (World.setCell (World.setCell (World.setCell D _ _) _ _) _ _) _ _ = D at *
    refine hK.out _ _ (fun _ => (box3 HX.out).1) ?_
    clear hK K
    try simp only [Act.put, List.setIfInBounds_toArray, List.set_cons_zero, List.set_cons_succ]
    refine wpAnyK_ready (rs := [12]) (by kernel_rfl) (by simp) ?_
    refine AllReadyK.cons (i := 12) rfl (fun K hK => ?_) ?_
    · obtain ⟨⟨t0, t1, t2⟩, u0, u1, u2⟩ := box3 HL.out
      go_simp
      have hk5 := keeps_set3 D (w.heap.size + 2) (.int .i64 0) (.slice none 0 0) (.bool false)
      have HX := Lib.hid (HX.out.keeps hk5 (by omega))
      have HT := Lib.hid (HT.out.keeps hk5 (by omega))
      have HL := Lib.hid (box_set3 HL.out (.int .i64 0) (.slice none 0 0) (.bool false))
      have HBE := Lib.hid (below_keeps HBE.out hk5 (fun k e => by omega))
      clear hk5 t0 t1 t2 u0 u1 u2
      generalize World.setCell (World.setCell (World.setCell D _ _) _ _) _ _ = D at *
      refine hK.out _ _ (fun h => Bool.noConfusion ((show unl _ _ = false by kernel_rfl).symm.trans h)) ?_
      clear hK K
      try simp only [Act.put, List.setIfInBounds_toArray, List.set_cons_zero, List.set_cons_succ]
      refine wpAnyK_done (by kernel_rfl) ?_ _
      obtain ⟨⟨r0, r1, r2, r3⟩, -⟩ := box4 HT.out
      obtain ⟨⟨t0, t1, t2⟩, -⟩ := box3 HL.out
      go_wp2
      refine bodyPost_ret (v := .tuple #[tokV 2 a (m : Nat) false, lex0]) (by simp [results, Tryd.results29, go_sem, tokV, lex0, r0, r1, r2, r3, t0, t1, t2]) rfl ?_
      exact ⟨rfl, HBE.out⟩
    exact AllReadyK.nil
  exact AllReadyK.nil
set_option maxHeartbeats 2000000 in
theorem step_op (s : List UInt8) (a : Nat) (w : World) (hs : s.length ≤ 536870912) (ha : a < s.length) (hb : blankN (s.drop a) = 0) (c10 : s[a] ≠ 10) (c35 : s[a] ≠ 35) (o0 : opL (s.drop a) ≠ 0) (o4 : opL (s.drop a) ≠ 4) (o5 : opL (s.drop a) ≠ 5) : Calls Tryd.prog 29 #[.string (B s), .int .i64 a, lex0] w (StepP 4 a (a + (opT (opL (s.drop a))).length) false w) := by
  have HB := Lib.hid fun w => blank_any s a w hs (by omega)
  rw [hb, Nat.add_zero] at HB
  unfold lex0
  have h0 : (0 : Int) ≤ (a : Int) := by omega
  have h1 : (a : Int) < (s.length : Int) := by omega
  have e10 := Pat.not_b (n := 10) rfl c10
  have e35 := Pat.not_b (n := 35) rfl c35
  have hle := opK_le (s.drop a) 17
  have HAT := Lib.hid fun w => opAt_any s a w hs (by omega)
  have HTX := Lib.hid fun w => opText_any (opL (s.drop a)) hle w
  have hlt := opT_len (opL (s.drop a)) hle
  have k0 : (0 : Int) < ((opL (s.drop a) : Nat) : Int) := by omega
  have k4 : (((opL (s.drop a) : Nat) : Int) == 4) = false := by simp; omega
  have k5 : (((opL (s.drop a) : Nat) : Int) == 5) = false := by simp; omega
  clear hb c10 c35 o0 o4 o5 hle
  generalize opL (s.drop a) = op at *
  generalize opT op = t at *
  obtain ⟨m, hm⟩ : ∃ m, m = a + t.length := ⟨_, rfl⟩
  rw [← hm]
  have i1 : (a : Int) + (t.length : Int) = (m : Int) := by omega
  have i2 : IntKind.i64.wrap (m : Int) = (m : Int) := by rw [IntKind.wrap_i64]; omega
  clear hm
  have hf := SFr.new w 30 34 30
  have hy := BoxN.new (((w.alloc (.cells #[.int .i64 0, .slice none 0 0, .bool false] 30)).alloc (.cells #[.int .i64 0, .int .i64 0, .int .i64 0, .bool false] 34)).alloc (.cells #[.int .i64 0, .slice none 0 0, .bool false] 30)) [.int .i64 0, .slice none 0 0, .bool false] 30
  rw [show (((w.alloc (.cells #[.int .i64 0, .slice none 0 0, .bool false] 30)).alloc (.cells #[.int .i64 0, .int .i64 0, .int .i64 0, .bool false] 34)).alloc (.cells #[.int .i64 0, .slice none 0 0, .bool false] 30)).heap.size = w.heap.size + 3 by simp] at hy
  have hal := below_alloc (Below.refl _ (((w.alloc (.cells #[.int .i64 0, .slice none 0 0, .bool false] 30)).alloc (.cells #[.int .i64 0, .int .i64 0, .int .i64 0, .bool false] 34)).alloc (.cells #[.int .i64 0, .slice none 0 0, .bool false] 30))) (.cells #[.int .i64 0, .slice none 0 0, .bool false] 30)
  have HX := Lib.hid hy
  have HT := Lib.hid (hf.tk.below hal)
  have HL := Lib.hid (hf.lx.below hal)
  have HBE := Lib.hid (below_then hf.be hal)
  clear hf hy hal
  go_enter Tryd.func29, Tryd.ntmps29
  go_wp2_with (first | (go_at_call 47; refine (HB.out _).mono ?_; rintro e w' ⟨rfl, rfl⟩) | (go_at_call 48; refine (HAT.out _).mono ?_; rintro e w' ⟨rfl, rfl⟩))
  refine wp_region_keyed (fun W => W.cell? ⟨w.heap.size + 3, 0, none⟩ = some (.int .i64 0) ∧ W.cell? ⟨w.heap.size + 3, 1, none⟩ = some (.slice none 0 0) ∧ W.cell? ⟨w.heap.size + 3, 2, none⟩ = some (.bool false)) [9] (by kernel_rfl) ?_
  have HX := Lib.hid (HX.out.below (below_drew (Below.refl _ _)))
  have HT := Lib.hid (HT.out.below (below_drew (Below.refl _ _)))
  have HL := Lib.hid (HL.out.below (below_drew (Below.refl _ _)))
  have HBE := Lib.hid (below_drew HBE.out)
  generalize World.drew _ = D at *
  refine wpAnyK_take2 (i := 0) (some 109) (v := ?v0_1z14) rfl rfl (by kernel_rfl) (by kernel_rfl) (by kernel_rfl) (by kernel_rfl) (fun _ _ _ h => h) (Or.inl ⟨by rfl, ?y0_1z14⟩) (fun _ => (box3 HX.out).1) ?r0_1z14
  case y0_1z14 =>
    intro w hSw
    go_simp
    try with_reducible rfl
  try simp only [Act.put, List.setIfInBounds_toArray, List.set_cons_zero, List.set_cons_succ]
  refine wpAnyK_take2 (i := 1) (some 110) (v := ?v1_2z14) rfl rfl (by kernel_rfl) (by kernel_rfl) (by kernel_rfl) (by kernel_rfl) (fun _ _ _ h => h) (Or.inl ⟨by rfl, ?y1_2z14⟩) (fun _ => (box3 HX.out).1) ?r1_2z14
  case y1_2z14 =>
    intro w hSw
    go_simp
    try with_reducible rfl
  try simp only [Act.put, List.setIfInBounds_toArray, List.set_cons_zero, List.set_cons_succ]
  refine wpAnyK_take2 (i := 2) (some 111) (v := ?v2_3z14) rfl rfl (by kernel_rfl) (by kernel_rfl) (by kernel_rfl) (by kernel_rfl) (fun _ _ _ h => h) (Or.inl ⟨by rfl, ?y2_3z14⟩) (fun _ => (box3 HX.out).1) ?r2_3z14
  case y2_3z14 =>
    intro w hSw
    go_simp
    try with_reducible rfl
  try simp only [Act.put, List.setIfInBounds_toArray, List.set_cons_zero, List.set_cons_succ]
  refine wpAnyK_load2 (i := 7) [9] (some 116) (v := ?v7_4z14) rfl rfl (by kernel_rfl) (by kernel_rfl) (by kernel_rfl) (by kernel_rfl) (by kernel_rfl) (fun _ _ _ h => h) (Or.inl ⟨by rfl, ?y7_4z14⟩) (fun _ => (box3 HX.out).1) ?r7_4z14
  case y7_4z14 =>
    intro w hSw
    (try dsimp only at hSw)
    go_split_ands
    go_simp
    try with_reducible rfl
  try simp only [Act.put, List.setIfInBounds_toArray, List.set_cons_zero, List.set_cons_succ]
  refine wpAnyK_ready (rs := [3]) (by kernel_rfl) (by simp) ?_
  refine AllReadyK.cons (i := 3) rfl (fun K hK => ?_) ?_
  · go_simp
    go_at_call 49
    refine (HTX.out _).mono ?_
    rintro e w9 ⟨rfl, rfl⟩
    dsimp only
    refine hK.out _ _ (fun _ => (box3 HX.out).1) ?_
    clear hK K
    try simp only [Act.put, List.setIfInBounds_toArray, List.set_cons_zero, List.set_cons_succ]
    refine wpAnyK_take2 (i := 4) (some 113) (v := ?v4_5z14) rfl rfl (by kernel_rfl) (by kernel_rfl) (by kernel_rfl) (by kernel_rfl) (fun _ _ _ h => h) (Or.inl ⟨by rfl, ?y4_5z14⟩) (fun _ => (box3 HX.out).1) ?r4_5z14
    case y4_5z14 =>
      intro w hSw
      go_simp
      try with_reducible rfl
    try simp only [Act.put, List.setIfInBounds_toArray, List.set_cons_zero, List.set_cons_succ]
    refine wpAnyK_take2 (i := 5) (some 114) (v := ?v5_6z14) rfl rfl (by kernel_rfl) (by kernel_rfl) (by kernel_rfl) (by kernel_rfl) (fun _ _ _ h => h) (Or.inl ⟨by rfl, ?y5_6z14⟩) (fun _ => (box3 HX.out).1) ?r5_6z14
    case y5_6z14 =>
      intro w hSw
      go_simp
      try with_reducible rfl
    try simp only [Act.put, List.setIfInBounds_toArray, List.set_cons_zero, List.set_cons_succ]
    refine wpAnyK_take2 (i := 6) (some 115) (v := ?v6_7z14) rfl rfl (by kernel_rfl) (by kernel_rfl) (by kernel_rfl) (by kernel_rfl) (fun _ _ _ h => h) (Or.inl ⟨by rfl, ?y6_7z14⟩) (fun _ => (box3 HX.out).1) ?r6_7z14
    case y6_7z14 =>
      intro w hSw
      go_simp
      try with_reducible rfl
    try simp only [Act.put, List.setIfInBounds_toArray, List.set_cons_zero, List.set_cons_succ]
    refine wpAnyK_ready (rs := [8]) (by kernel_rfl) (by simp) ?_
    refine AllReadyK.cons (i := 8) rfl (fun K hK => ?_) ?_
    · obtain ⟨⟨r0, r1, r2, r3⟩, q0, q1, q2, q3⟩ := box4 HT.out
      go_simp
      have hk4 := keeps_set4 D (w.heap.size + 1) (.int .i64 4) (.int .i64 a) (.int .i64 m) (.bool false)
      have HX := Lib.hid (HX.out.keeps hk4 (by omega))
      have HT := Lib.hid (box_set4 HT.out (.int .i64 4) (.int .i64 a) (.int .i64 m) (.bool false))
      have HL := Lib.hid (HL.out.keeps hk4 (by omega))
      have HBE := Lib.hid (below_keeps HBE.out hk4 (fun k e => by omega))
      clear hk4 r0 r1 r2 r3 q0 q1 q2 q3
      generalize World.setCell (World.setCell (World.setCell (World.setCell D _ _) _ _) _ _) _ _ = D at *
      refine hK.out _ _ (fun _ => (box3 HX.out).1) ?_
      clear hK K
      try simp only [Act.put, List.setIfInBounds_toArray, List.set_cons_zero, List.set_cons_succ]
      refine wpAnyK_ready (rs := [9]) (by kernel_rfl) (by simp) ?_
      refine AllReadyK.cons (i := 9) rfl (fun K hK => ?_) ?_
      · obtain ⟨⟨t0, t1, t2⟩, u0, u1, u2⟩ := box3 HL.out
        go_simp
        have hk5 := keeps_set3 D (w.heap.size + 2) (.int .i64 0) (.slice none 0 0) (.bool false)
        have HX := Lib.hid (HX.out.keeps hk5 (by omega))
        have HT := Lib.hid (HT.out.keeps hk5 (by omega))
        have HL := Lib.hid (box_set3 HL.out (.int .i64 0) (.slice none 0 0) (.bool false))
        have HBE := Lib.hid (below_keeps HBE.out hk5 (fun k e => by omega))
        clear hk5 t0 t1 t2 u0 u1 u2
        generalize World.setCell (World.setCell (World.setCell D _ _) _ _) _ _ = D at *
        refine hK.out _ _ (fun h => Bool.noConfusion ((show unl _ _ = false by kernel_rfl).symm.trans h)) ?_
        clear hK K
        try simp only [Act.put, List.setIfInBounds_toArray, List.set_cons_zero, List.set_cons_succ]
        refine wpAnyK_done (by kernel_rfl) ?_ _
        obtain ⟨⟨r0, r1, r2, r3⟩, -⟩ := box4 HT.out
        obtain ⟨⟨t0, t1, t2⟩, -⟩ := box3 HL.out
        go_wp2
        refine bodyPost_ret (v := .tuple #[tokV 4 a (m : Nat) false, lex0]) (by simp [results, Tryd.results29, go_sem, tokV, lex0, r0, r1, r2, r3, t0, t1, t2]) rfl ?_
        exact ⟨rfl, HBE.out⟩
      exact AllReadyK.nil
    exact AllReadyK.nil
  exact AllReadyK.nil
theorem endFrom_ge (x : St) (i : Nat) (l : List UInt8) : i ≤ endFrom x i l ∧ endFrom x i l ≤ i + l.length := by
  induction l generalizing x i with
  | nil => exact ⟨Nat.le_refl _, Nat.le_refl _⟩
  | cons b l ih =>
    unfold endFrom
    split
    · simp
    · have := ih (Md.step x b.toNat i) (i + 1)
      simp
      omega
theorem endN_ge {s : List UInt8} {a : Nat} (ha : a ≤ s.length) : a ≤ endN s a ∧ endN s a ≤ s.length := by
  have := endFrom_ge first a (s.drop a)
  unfold endN
  rw [List.length_drop] at this
  omega
set_option maxHeartbeats 4000000 in
theorem step_word (s : List UInt8) (a : Nat) (w : World) (hs : s.length ≤ 536870912) (ha : a < s.length) (hb : blankN (s.drop a) = 0) (c10 : s[a] ≠ 10) (c35 : s[a] ≠ 35) (o0 : opL (s.drop a) = 0) (hd : ∀ h : a + spanN digitB (s.drop a) < s.length, 0 < spanN digitB (s.drop a) → s[a + spanN digitB (s.drop a)] ≠ 60 ∧ s[a + spanN digitB (s.drop a)] ≠ 62) : Calls Tryd.prog 29 #[.string (B s), .int .i64 a, lex0] w (StepP 6 a (endN s a) (!(lets (run ((s.take (endN s a)).drop a)).l == [84] || lets (run ((s.take (endN s a)).drop a)).l == [84, 76])) w) := by
  have HB := Lib.hid fun w => blank_any s a w hs (by omega)
  rw [hb, Nat.add_zero] at HB
  unfold lex0
  have h0 : (0 : Int) ≤ (a : Int) := by omega
  have h1 : (a : Int) < (s.length : Int) := by omega
  have e10 := Pat.not_b (n := 10) rfl c10
  have e35 := Pat.not_b (n := 35) rfl c35
  have HAT := Lib.hid fun w => opAt_any s a w hs (by omega)
  rw [o0] at HAT
  have hee := endN_ge (s := s) (a := a) (by omega)
  have HEND := Lib.hid fun W => refEnd_any s a W hs (by omega)
  have HSH := Lib.hid fun W => refShut_any ((s.take (endN s a)).drop a) W (by rw [List.length_drop, List.length_take]; omega)
  have HCL := Lib.hid fun c w => refClass_any c w
  have hsp := spanN_le digitB (s.drop a)
  rw [List.length_drop] at hsp
  have HD := Lib.hid hd
  generalize (lets (run ((s.take (endN s a)).drop a)).l == [84] || lets (run ((s.take (endN s a)).drop a)).l == [84, 76]) = sh at *
  generalize endN s a = m at *
  generalize hq : (s.take m).drop a = q at *
  clear hb c10 c35 o0 hd
  have hmi : (m : Int) ≤ (s.length : Int) := by omega
  have hai : (a : Int) ≤ (m : Int) := by omega
  have hf := SFr.new w 30 34 30
  have hy := BoxN.new (((w.alloc (.cells #[.int .i64 0, .slice none 0 0, .bool false] 30)).alloc (.cells #[.int .i64 0, .int .i64 0, .int .i64 0, .bool false] 34)).alloc (.cells #[.int .i64 0, .slice none 0 0, .bool false] 30)) [.int .i64 0, .slice none 0 0, .bool false] 30
  rw [show (((w.alloc (.cells #[.int .i64 0, .slice none 0 0, .bool false] 30)).alloc (.cells #[.int .i64 0, .int .i64 0, .int .i64 0, .bool false] 34)).alloc (.cells #[.int .i64 0, .slice none 0 0, .bool false] 30)).heap.size = w.heap.size + 3 by simp] at hy
  have hal := below_alloc (Below.refl _ (((w.alloc (.cells #[.int .i64 0, .slice none 0 0, .bool false] 30)).alloc (.cells #[.int .i64 0, .int .i64 0, .int .i64 0, .bool false] 34)).alloc (.cells #[.int .i64 0, .slice none 0 0, .bool false] 30))) (.cells #[.int .i64 0, .slice none 0 0, .bool false] 30)
  have HX := Lib.hid hy
  have HT := Lib.hid (hf.tk.below hal)
  have HL := Lib.hid (hf.lx.below hal)
  have HBE := Lib.hid (below_then hf.be hal)
  have HBX := Lib.hid (hf.bx.below hal)
  clear hf hy hal
  go_enter Tryd.func29, Tryd.ntmps29
  go_wp2_with (first | (go_at_call 47; refine (HB.out _).mono ?_; rintro e w' ⟨rfl, rfl⟩) | (go_at_call 48; refine (HAT.out _).mono ?_; rintro e w' ⟨rfl, rfl⟩))
  go_loopw [14] (fun i wr => ∃ k : Nat, a ≤ k ∧ k ≤ s.length ∧ i = .int .i64 k ∧ Hid (a + spanN digitB (s.drop a) = k + spanN digitB (s.drop k)) ∧ wr = (((w.alloc (.cells #[.int .i64 0, .slice none 0 0, .bool false] 30)).alloc (.cells #[.int .i64 0, .int .i64 0, .int .i64 0, .bool false] 34)).alloc (.cells #[.int .i64 0, .slice none 0 0, .bool false] 30)).alloc (.cells #[.int .i64 0, .slice none 0 0, .bool false] 30)) (fun i _ => s.length - (intOf i).toNat)
  case atStart => exact ⟨a, by omega, by omega, rfl, rfl, rfl⟩
  case round =>
    obtain ⟨k, hk1, hk2, rfl, HK, rfl⟩ := hrel
    by_cases hlt : k < s.length
    · have k0 : (0 : Int) ≤ (k : Int) := by omega
      have k1 : (k : Int) < (s.length : Int) := by omega
      have HCC := Lib.hid fun w => HCL.out s[k] w
      have hst := spanN_step digitB hlt
      cases hc : digitB s[k] with
      | true =>
        rw [hc, if_pos rfl] at hst
        have c6 : (clsB s[k] == 6) = true := hc
        have HK2 := Lib.hid (show a + spanN digitB (s.drop a) = (k + 1) + spanN digitB (s.drop (k + 1)) by rw [HK.out, hst]; omega)
        clear hc hst HK
        generalize clsB s[k] = c at *
        go_wp2_with (go_at_call 27; refine (HCC.out _).mono ?_; rintro e w' ⟨rfl, rfl⟩)
        go_roundw
        case rel => exact ⟨k + 1, by omega, by omega, by go_num, HK2.out, by trivial⟩
        case measure => simp [intOf]; omega
      | false =>
        rw [hc, if_neg (by simp)] at hst
        have c6 : (clsB s[k] == 6) = false := hc
        have hka : a + spanN digitB (s.drop a) = k := by rw [HK.out, hst]; omega
        by_cases hak : a < k
        · have hk3 : (a : Int) < (k : Int) := by omega
          have hd2 : s[k] ≠ 60 ∧ s[k] ≠ 62 := by
            subst hka
            exact HD.out hlt (by omega)
          have n60 := Pat.not_b (n := 60) rfl hd2.1
          have n62 := Pat.not_b (n := 62) rfl hd2.2
          clear hc hst HK hka hd2 HD hsp
          generalize clsB s[k] = c at *
          go_wp2_with (first
            | (go_at_call 27; refine (HCC.out _).mono ?_; rintro e w' ⟨rfl, rfl⟩)
            | (go_at_call 50; (refine (HEND.out _).mono ?_); rintro e w9 ⟨rfl, hb9⟩; have HX := Lib.hid (HX.out.below hb9); have HT := Lib.hid (HT.out.below hb9); have HL := Lib.hid (HL.out.below hb9); have HBX := Lib.hid (HBX.out.below hb9); have HBE := Lib.hid (below_then HBE.out hb9); clear hb9; obtain ⟨⟨b0, b1, b2⟩, -⟩ := box3 HBX.out))
          refine wp_region_keyed (fun W => W.cell? ⟨w.heap.size + 3, 0, none⟩ = some (.int .i64 0) ∧ W.cell? ⟨w.heap.size + 3, 1, none⟩ = some (.slice none 0 0) ∧ W.cell? ⟨w.heap.size + 3, 2, none⟩ = some (.bool false)) [8] (by kernel_rfl) ?_
          have HX := Lib.hid (HX.out.below (below_drew (Below.refl _ _)))
          have HT := Lib.hid (HT.out.below (below_drew (Below.refl _ _)))
          have HL := Lib.hid (HL.out.below (below_drew (Below.refl _ _)))
          have HBE := Lib.hid (below_drew HBE.out)
          generalize World.drew _ = D at *
          refine wpAnyK_take2 (i := 0) (some 179) (v := ?v0_1z15) rfl rfl (by kernel_rfl) (by kernel_rfl) (by kernel_rfl) (by kernel_rfl) (fun _ _ _ h => h) (Or.inl ⟨by rfl, ?y0_1z15⟩) (fun _ => (box3 HX.out).1) ?r0_1z15
          case y0_1z15 =>
            intro w hSw
            go_simp
            try with_reducible rfl
          try simp only [Act.put, List.setIfInBounds_toArray, List.set_cons_zero, List.set_cons_succ]
          refine wpAnyK_take2 (i := 1) (some 180) (v := ?v1_2z15) rfl rfl (by kernel_rfl) (by kernel_rfl) (by kernel_rfl) (by kernel_rfl) (fun _ _ _ h => h) (Or.inl ⟨by rfl, ?y1_2z15⟩) (fun _ => (box3 HX.out).1) ?r1_2z15
          case y1_2z15 =>
            intro w hSw
            go_simp
            try with_reducible rfl
          try simp only [Act.put, List.setIfInBounds_toArray, List.set_cons_zero, List.set_cons_succ]
          refine wpAnyK_take2 (i := 2) (some 181) (v := ?v2_3z15) rfl rfl (by kernel_rfl) (by kernel_rfl) (by kernel_rfl) (by kernel_rfl) (fun _ _ _ h => h) (Or.inl ⟨by rfl, ?y2_3z15⟩) (fun _ => (box3 HX.out).1) ?r2_3z15
          case y2_3z15 =>
            intro w hSw
            go_simp
            try with_reducible rfl
          try simp only [Act.put, List.setIfInBounds_toArray, List.set_cons_zero, List.set_cons_succ]
          refine wpAnyK_load2 (i := 6) [8] (some 185) (v := ?v6_4z15) rfl rfl (by kernel_rfl) (by kernel_rfl) (by kernel_rfl) (by kernel_rfl) (by kernel_rfl) (fun _ _ _ h => h) (Or.inl ⟨by rfl, ?y6_4z15⟩) (fun _ => (box3 HX.out).1) ?r6_4z15
          case y6_4z15 =>
            intro w hSw
            (try dsimp only at hSw)
            go_split_ands
            go_simp
            try with_reducible rfl
          try simp only [Act.put, List.setIfInBounds_toArray, List.set_cons_zero, List.set_cons_succ]
          refine wpAnyK_ready (rs := [3]) (by kernel_rfl) (by simp) ?_
          refine AllReadyK.cons (i := 3) rfl (fun K hK => ?_) ?_
          · go_simp
            go_at_call 52
            refine (HSH.out _).mono ?_
            rintro e w9 ⟨rfl, hb9⟩
            have HX := Lib.hid (HX.out.below hb9)
            have HT := Lib.hid (HT.out.below hb9)
            have HL := Lib.hid (HL.out.below hb9)
            have HBE := Lib.hid (below_then HBE.out hb9)
            clear hb9
            obtain ⟨D, rfl⟩ : ∃ W, W = w9 := ⟨_, rfl⟩
            dsimp only
            refine hK.out _ _ (fun _ => (box3 HX.out).1) ?_
            clear hK K
            try simp only [Act.put, List.setIfInBounds_toArray, List.set_cons_zero, List.set_cons_succ]
            refine wpAnyK_take2 (i := 4) (some 183) (v := ?v4_5z15) rfl rfl (by kernel_rfl) (by kernel_rfl) (by kernel_rfl) (by kernel_rfl) (fun _ _ _ h => h) (Or.inl ⟨by rfl, ?y4_5z15⟩) (fun _ => (box3 HX.out).1) ?r4_5z15
            case y4_5z15 =>
              intro w hSw
              go_simp
              try with_reducible rfl
            try simp only [Act.put, List.setIfInBounds_toArray, List.set_cons_zero, List.set_cons_succ]
            refine wpAnyK_take2 (i := 5) (some 184) (v := ?v5_6z15) rfl rfl (by kernel_rfl) (by kernel_rfl) (by kernel_rfl) (by kernel_rfl) (fun _ _ _ h => h) (Or.inl ⟨by rfl, ?y5_6z15⟩) (fun _ => (box3 HX.out).1) ?r5_6z15
            case y5_6z15 =>
              intro w hSw
              go_simp
              try with_reducible rfl
            try simp only [Act.put, List.setIfInBounds_toArray, List.set_cons_zero, List.set_cons_succ]
            refine wpAnyK_ready (rs := [7]) (by kernel_rfl) (by simp) ?_
            refine AllReadyK.cons (i := 7) rfl (fun K hK => ?_) ?_
            · obtain ⟨⟨r0, r1, r2, r3⟩, q0, q1, q2, q3⟩ := box4 HT.out
              go_simp
              have hk4 := keeps_set4 D (w.heap.size + 1) (.int .i64 6) (.int .i64 a) (.int .i64 m) (.bool (!sh))
              have HX := Lib.hid (HX.out.keeps hk4 (by omega))
              have HT := Lib.hid (box_set4 HT.out (.int .i64 6) (.int .i64 a) (.int .i64 m) (.bool (!sh)))
              have HL := Lib.hid (HL.out.keeps hk4 (by omega))
              have HBE := Lib.hid (below_keeps HBE.out hk4 (fun k e => by omega))
              clear hk4 r0 r1 r2 r3 q0 q1 q2 q3
              generalize World.setCell (World.setCell (World.setCell (World.setCell D _ _) _ _) _ _) _ _ = D at *
              refine hK.out _ _ (fun _ => (box3 HX.out).1) ?_
              clear hK K
              try simp only [Act.put, List.setIfInBounds_toArray, List.set_cons_zero, List.set_cons_succ]
              refine wpAnyK_ready (rs := [8]) (by kernel_rfl) (by simp) ?_
              refine AllReadyK.cons (i := 8) rfl (fun K hK => ?_) ?_
              · obtain ⟨⟨t0, t1, t2⟩, u0, u1, u2⟩ := box3 HL.out
                go_simp
                have hk5 := keeps_set3 D (w.heap.size + 2) (.int .i64 0) (.slice none 0 0) (.bool false)
                have HX := Lib.hid (HX.out.keeps hk5 (by omega))
                have HT := Lib.hid (HT.out.keeps hk5 (by omega))
                have HL := Lib.hid (box_set3 HL.out (.int .i64 0) (.slice none 0 0) (.bool false))
                have HBE := Lib.hid (below_keeps HBE.out hk5 (fun k e => by omega))
                clear hk5 t0 t1 t2 u0 u1 u2
                generalize World.setCell (World.setCell (World.setCell D _ _) _ _) _ _ = D at *
                refine hK.out _ _ (fun h => Bool.noConfusion ((show unl _ _ = false by kernel_rfl).symm.trans h)) ?_
                clear hK K
                try simp only [Act.put, List.setIfInBounds_toArray, List.set_cons_zero, List.set_cons_succ]
                refine wpAnyK_done (by kernel_rfl) ?_ _
                obtain ⟨⟨r0, r1, r2, r3⟩, -⟩ := box4 HT.out
                obtain ⟨⟨t0, t1, t2⟩, -⟩ := box3 HL.out
                go_wp2
                refine bodyPost_ret (v := .tuple #[tokV 6 a m (!sh), lex0]) (by simp [results, Tryd.results29, go_sem, tokV, lex0, r0, r1, r2, r3, t0, t1, t2]) rfl ?_
                exact ⟨rfl, HBE.out⟩
              exact AllReadyK.nil
            exact AllReadyK.nil
          exact AllReadyK.nil
        · have hk3 := no (show ¬ (a : Int) < (k : Int) by omega)
          have hk7 := no hak
          clear hc hst HK hka HD hsp hak
          generalize clsB s[k] = c at *
          go_wp2_with (first
            | (go_at_call 27; refine (HCC.out _).mono ?_; rintro e w' ⟨rfl, rfl⟩)
            | (go_at_call 50; (refine (HEND.out _).mono ?_); rintro e w9 ⟨rfl, hb9⟩; have HX := Lib.hid (HX.out.below hb9); have HT := Lib.hid (HT.out.below hb9); have HL := Lib.hid (HL.out.below hb9); have HBX := Lib.hid (HBX.out.below hb9); have HBE := Lib.hid (below_then HBE.out hb9); clear hb9; obtain ⟨⟨b0, b1, b2⟩, -⟩ := box3 HBX.out))
          refine wp_region_keyed (fun W => W.cell? ⟨w.heap.size + 3, 0, none⟩ = some (.int .i64 0) ∧ W.cell? ⟨w.heap.size + 3, 1, none⟩ = some (.slice none 0 0) ∧ W.cell? ⟨w.heap.size + 3, 2, none⟩ = some (.bool false)) [8] (by kernel_rfl) ?_
          have HX := Lib.hid (HX.out.below (below_drew (Below.refl _ _)))
          have HT := Lib.hid (HT.out.below (below_drew (Below.refl _ _)))
          have HL := Lib.hid (HL.out.below (below_drew (Below.refl _ _)))
          have HBE := Lib.hid (below_drew HBE.out)
          generalize World.drew _ = D at *
          refine wpAnyK_take2 (i := 0) (some 179) (v := ?v0_1z16) rfl rfl (by kernel_rfl) (by kernel_rfl) (by kernel_rfl) (by kernel_rfl) (fun _ _ _ h => h) (Or.inl ⟨by rfl, ?y0_1z16⟩) (fun _ => (box3 HX.out).1) ?r0_1z16
          case y0_1z16 =>
            intro w hSw
            go_simp
            try with_reducible rfl
          try simp only [Act.put, List.setIfInBounds_toArray, List.set_cons_zero, List.set_cons_succ]
          refine wpAnyK_take2 (i := 1) (some 180) (v := ?v1_2z16) rfl rfl (by kernel_rfl) (by kernel_rfl) (by kernel_rfl) (by kernel_rfl) (fun _ _ _ h => h) (Or.inl ⟨by rfl, ?y1_2z16⟩) (fun _ => (box3 HX.out).1) ?r1_2z16
          case y1_2z16 =>
            intro w hSw
            go_simp
            try with_reducible rfl
          try simp only [Act.put, List.setIfInBounds_toArray, List.set_cons_zero, List.set_cons_succ]
          refine wpAnyK_take2 (i := 2) (some 181) (v := ?v2_3z16) rfl rfl (by kernel_rfl) (by kernel_rfl) (by kernel_rfl) (by kernel_rfl) (fun _ _ _ h => h) (Or.inl ⟨by rfl, ?y2_3z16⟩) (fun _ => (box3 HX.out).1) ?r2_3z16
          case y2_3z16 =>
            intro w hSw
            go_simp
            try with_reducible rfl
          try simp only [Act.put, List.setIfInBounds_toArray, List.set_cons_zero, List.set_cons_succ]
          refine wpAnyK_load2 (i := 6) [8] (some 185) (v := ?v6_4z16) rfl rfl (by kernel_rfl) (by kernel_rfl) (by kernel_rfl) (by kernel_rfl) (by kernel_rfl) (fun _ _ _ h => h) (Or.inl ⟨by rfl, ?y6_4z16⟩) (fun _ => (box3 HX.out).1) ?r6_4z16
          case y6_4z16 =>
            intro w hSw
            (try dsimp only at hSw)
            go_split_ands
            go_simp
            try with_reducible rfl
          try simp only [Act.put, List.setIfInBounds_toArray, List.set_cons_zero, List.set_cons_succ]
          refine wpAnyK_ready (rs := [3]) (by kernel_rfl) (by simp) ?_
          refine AllReadyK.cons (i := 3) rfl (fun K hK => ?_) ?_
          · go_simp
            go_at_call 52
            refine (HSH.out _).mono ?_
            rintro e w9 ⟨rfl, hb9⟩
            have HX := Lib.hid (HX.out.below hb9)
            have HT := Lib.hid (HT.out.below hb9)
            have HL := Lib.hid (HL.out.below hb9)
            have HBE := Lib.hid (below_then HBE.out hb9)
            clear hb9
            obtain ⟨D, rfl⟩ : ∃ W, W = w9 := ⟨_, rfl⟩
            dsimp only
            refine hK.out _ _ (fun _ => (box3 HX.out).1) ?_
            clear hK K
            try simp only [Act.put, List.setIfInBounds_toArray, List.set_cons_zero, List.set_cons_succ]
            refine wpAnyK_take2 (i := 4) (some 183) (v := ?v4_5z16) rfl rfl (by kernel_rfl) (by kernel_rfl) (by kernel_rfl) (by kernel_rfl) (fun _ _ _ h => h) (Or.inl ⟨by rfl, ?y4_5z16⟩) (fun _ => (box3 HX.out).1) ?r4_5z16
            case y4_5z16 =>
              intro w hSw
              go_simp
              try with_reducible rfl
            try simp only [Act.put, List.setIfInBounds_toArray, List.set_cons_zero, List.set_cons_succ]
            refine wpAnyK_take2 (i := 5) (some 184) (v := ?v5_6z16) rfl rfl (by kernel_rfl) (by kernel_rfl) (by kernel_rfl) (by kernel_rfl) (fun _ _ _ h => h) (Or.inl ⟨by rfl, ?y5_6z16⟩) (fun _ => (box3 HX.out).1) ?r5_6z16
            case y5_6z16 =>
              intro w hSw
              go_simp
              try with_reducible rfl
            try simp only [Act.put, List.setIfInBounds_toArray, List.set_cons_zero, List.set_cons_succ]
            refine wpAnyK_ready (rs := [7]) (by kernel_rfl) (by simp) ?_
            refine AllReadyK.cons (i := 7) rfl (fun K hK => ?_) ?_
            · obtain ⟨⟨r0, r1, r2, r3⟩, q0, q1, q2, q3⟩ := box4 HT.out
              go_simp
              have hk4 := keeps_set4 D (w.heap.size + 1) (.int .i64 6) (.int .i64 a) (.int .i64 m) (.bool (!sh))
              have HX := Lib.hid (HX.out.keeps hk4 (by omega))
              have HT := Lib.hid (box_set4 HT.out (.int .i64 6) (.int .i64 a) (.int .i64 m) (.bool (!sh)))
              have HL := Lib.hid (HL.out.keeps hk4 (by omega))
              have HBE := Lib.hid (below_keeps HBE.out hk4 (fun k e => by omega))
              clear hk4 r0 r1 r2 r3 q0 q1 q2 q3
              generalize World.setCell (World.setCell (World.setCell (World.setCell D _ _) _ _) _ _) _ _ = D at *
              refine hK.out _ _ (fun _ => (box3 HX.out).1) ?_
              clear hK K
              try simp only [Act.put, List.setIfInBounds_toArray, List.set_cons_zero, List.set_cons_succ]
              refine wpAnyK_ready (rs := [8]) (by kernel_rfl) (by simp) ?_
              refine AllReadyK.cons (i := 8) rfl (fun K hK => ?_) ?_
              · obtain ⟨⟨t0, t1, t2⟩, u0, u1, u2⟩ := box3 HL.out
                go_simp
                have hk5 := keeps_set3 D (w.heap.size + 2) (.int .i64 0) (.slice none 0 0) (.bool false)
                have HX := Lib.hid (HX.out.keeps hk5 (by omega))
                have HT := Lib.hid (HT.out.keeps hk5 (by omega))
                have HL := Lib.hid (box_set3 HL.out (.int .i64 0) (.slice none 0 0) (.bool false))
                have HBE := Lib.hid (below_keeps HBE.out hk5 (fun k e => by omega))
                clear hk5 t0 t1 t2 u0 u1 u2
                generalize World.setCell (World.setCell (World.setCell D _ _) _ _) _ _ = D at *
                refine hK.out _ _ (fun h => Bool.noConfusion ((show unl _ _ = false by kernel_rfl).symm.trans h)) ?_
                clear hK K
                try simp only [Act.put, List.setIfInBounds_toArray, List.set_cons_zero, List.set_cons_succ]
                refine wpAnyK_done (by kernel_rfl) ?_ _
                obtain ⟨⟨r0, r1, r2, r3⟩, -⟩ := box4 HT.out
                obtain ⟨⟨t0, t1, t2⟩, -⟩ := box3 HL.out
                go_wp2
                refine bodyPost_ret (v := .tuple #[tokV 6 a m (!sh), lex0]) (by simp [results, Tryd.results29, go_sem, tokV, lex0, r0, r1, r2, r3, t0, t1, t2]) rfl ?_
                exact ⟨rfl, HBE.out⟩
              exact AllReadyK.nil
            exact AllReadyK.nil
          exact AllReadyK.nil
    · have hk4 : k = s.length := by omega
      subst hk4
      have hk3 : (a : Int) < (s.length : Int) := by omega
      have hk5 := no (show ¬ (s.length : Int) < (s.length : Int) by omega)
      have hk6 := no (show ¬ s.length < s.length by omega)
      clear hlt HK HD hsp
      go_wp2_with (first
        | (go_at_call 27; refine (HCC.out _).mono ?_; rintro e w' ⟨rfl, rfl⟩)
        | (go_at_call 50; (refine (HEND.out _).mono ?_); rintro e w9 ⟨rfl, hb9⟩; have HX := Lib.hid (HX.out.below hb9); have HT := Lib.hid (HT.out.below hb9); have HL := Lib.hid (HL.out.below hb9); have HBX := Lib.hid (HBX.out.below hb9); have HBE := Lib.hid (below_then HBE.out hb9); clear hb9; obtain ⟨⟨b0, b1, b2⟩, -⟩ := box3 HBX.out))
      refine wp_region_keyed (fun W => W.cell? ⟨w.heap.size + 3, 0, none⟩ = some (.int .i64 0) ∧ W.cell? ⟨w.heap.size + 3, 1, none⟩ = some (.slice none 0 0) ∧ W.cell? ⟨w.heap.size + 3, 2, none⟩ = some (.bool false)) [8] (by kernel_rfl) ?_
      have HX := Lib.hid (HX.out.below (below_drew (Below.refl _ _)))
      have HT := Lib.hid (HT.out.below (below_drew (Below.refl _ _)))
      have HL := Lib.hid (HL.out.below (below_drew (Below.refl _ _)))
      have HBE := Lib.hid (below_drew HBE.out)
      generalize World.drew _ = D at *
      refine wpAnyK_take2 (i := 0) (some 179) (v := ?v0_1z17) rfl rfl (by kernel_rfl) (by kernel_rfl) (by kernel_rfl) (by kernel_rfl) (fun _ _ _ h => h) (Or.inl ⟨by rfl, ?y0_1z17⟩) (fun _ => (box3 HX.out).1) ?r0_1z17
      case y0_1z17 =>
        intro w hSw
        go_simp
        try with_reducible rfl
      try simp only [Act.put, List.setIfInBounds_toArray, List.set_cons_zero, List.set_cons_succ]
      refine wpAnyK_take2 (i := 1) (some 180) (v := ?v1_2z17) rfl rfl (by kernel_rfl) (by kernel_rfl) (by kernel_rfl) (by kernel_rfl) (fun _ _ _ h => h) (Or.inl ⟨by rfl, ?y1_2z17⟩) (fun _ => (box3 HX.out).1) ?r1_2z17
      case y1_2z17 =>
        intro w hSw
        go_simp
        try with_reducible rfl
      try simp only [Act.put, List.setIfInBounds_toArray, List.set_cons_zero, List.set_cons_succ]
      refine wpAnyK_take2 (i := 2) (some 181) (v := ?v2_3z17) rfl rfl (by kernel_rfl) (by kernel_rfl) (by kernel_rfl) (by kernel_rfl) (fun _ _ _ h => h) (Or.inl ⟨by rfl, ?y2_3z17⟩) (fun _ => (box3 HX.out).1) ?r2_3z17
      case y2_3z17 =>
        intro w hSw
        go_simp
        try with_reducible rfl
      try simp only [Act.put, List.setIfInBounds_toArray, List.set_cons_zero, List.set_cons_succ]
      refine wpAnyK_load2 (i := 6) [8] (some 185) (v := ?v6_4z17) rfl rfl (by kernel_rfl) (by kernel_rfl) (by kernel_rfl) (by kernel_rfl) (by kernel_rfl) (fun _ _ _ h => h) (Or.inl ⟨by rfl, ?y6_4z17⟩) (fun _ => (box3 HX.out).1) ?r6_4z17
      case y6_4z17 =>
        intro w hSw
        (try dsimp only at hSw)
        go_split_ands
        go_simp
        try with_reducible rfl
      try simp only [Act.put, List.setIfInBounds_toArray, List.set_cons_zero, List.set_cons_succ]
      refine wpAnyK_ready (rs := [3]) (by kernel_rfl) (by simp) ?_
      refine AllReadyK.cons (i := 3) rfl (fun K hK => ?_) ?_
      · go_simp
        go_at_call 52
        refine (HSH.out _).mono ?_
        rintro e w9 ⟨rfl, hb9⟩
        have HX := Lib.hid (HX.out.below hb9)
        have HT := Lib.hid (HT.out.below hb9)
        have HL := Lib.hid (HL.out.below hb9)
        have HBE := Lib.hid (below_then HBE.out hb9)
        clear hb9
        obtain ⟨D, rfl⟩ : ∃ W, W = w9 := ⟨_, rfl⟩
        dsimp only
        refine hK.out _ _ (fun _ => (box3 HX.out).1) ?_
        clear hK K
        try simp only [Act.put, List.setIfInBounds_toArray, List.set_cons_zero, List.set_cons_succ]
        refine wpAnyK_take2 (i := 4) (some 183) (v := ?v4_5z17) rfl rfl (by kernel_rfl) (by kernel_rfl) (by kernel_rfl) (by kernel_rfl) (fun _ _ _ h => h) (Or.inl ⟨by rfl, ?y4_5z17⟩) (fun _ => (box3 HX.out).1) ?r4_5z17
        case y4_5z17 =>
          intro w hSw
          go_simp
          try with_reducible rfl
        try simp only [Act.put, List.setIfInBounds_toArray, List.set_cons_zero, List.set_cons_succ]
        refine wpAnyK_take2 (i := 5) (some 184) (v := ?v5_6z17) rfl rfl (by kernel_rfl) (by kernel_rfl) (by kernel_rfl) (by kernel_rfl) (fun _ _ _ h => h) (Or.inl ⟨by rfl, ?y5_6z17⟩) (fun _ => (box3 HX.out).1) ?r5_6z17
        case y5_6z17 =>
          intro w hSw
          go_simp
          try with_reducible rfl
        try simp only [Act.put, List.setIfInBounds_toArray, List.set_cons_zero, List.set_cons_succ]
        refine wpAnyK_ready (rs := [7]) (by kernel_rfl) (by simp) ?_
        refine AllReadyK.cons (i := 7) rfl (fun K hK => ?_) ?_
        · obtain ⟨⟨r0, r1, r2, r3⟩, q0, q1, q2, q3⟩ := box4 HT.out
          go_simp
          have hk4 := keeps_set4 D (w.heap.size + 1) (.int .i64 6) (.int .i64 a) (.int .i64 m) (.bool (!sh))
          have HX := Lib.hid (HX.out.keeps hk4 (by omega))
          have HT := Lib.hid (box_set4 HT.out (.int .i64 6) (.int .i64 a) (.int .i64 m) (.bool (!sh)))
          have HL := Lib.hid (HL.out.keeps hk4 (by omega))
          have HBE := Lib.hid (below_keeps HBE.out hk4 (fun k e => by omega))
          clear hk4 r0 r1 r2 r3 q0 q1 q2 q3
          generalize World.setCell (World.setCell (World.setCell (World.setCell D _ _) _ _) _ _) _ _ = D at *
          refine hK.out _ _ (fun _ => (box3 HX.out).1) ?_
          clear hK K
          try simp only [Act.put, List.setIfInBounds_toArray, List.set_cons_zero, List.set_cons_succ]
          refine wpAnyK_ready (rs := [8]) (by kernel_rfl) (by simp) ?_
          refine AllReadyK.cons (i := 8) rfl (fun K hK => ?_) ?_
          · obtain ⟨⟨t0, t1, t2⟩, u0, u1, u2⟩ := box3 HL.out
            go_simp
            have hk5 := keeps_set3 D (w.heap.size + 2) (.int .i64 0) (.slice none 0 0) (.bool false)
            have HX := Lib.hid (HX.out.keeps hk5 (by omega))
            have HT := Lib.hid (HT.out.keeps hk5 (by omega))
            have HL := Lib.hid (box_set3 HL.out (.int .i64 0) (.slice none 0 0) (.bool false))
            have HBE := Lib.hid (below_keeps HBE.out hk5 (fun k e => by omega))
            clear hk5 t0 t1 t2 u0 u1 u2
            generalize World.setCell (World.setCell (World.setCell D _ _) _ _) _ _ = D at *
            refine hK.out _ _ (fun h => Bool.noConfusion ((show unl _ _ = false by kernel_rfl).symm.trans h)) ?_
            clear hK K
            try simp only [Act.put, List.setIfInBounds_toArray, List.set_cons_zero, List.set_cons_succ]
            refine wpAnyK_done (by kernel_rfl) ?_ _
            obtain ⟨⟨r0, r1, r2, r3⟩, -⟩ := box4 HT.out
            obtain ⟨⟨t0, t1, t2⟩, -⟩ := box3 HL.out
            go_wp2
            refine bodyPost_ret (v := .tuple #[tokV 6 a m (!sh), lex0]) (by simp [results, Tryd.results29, go_sem, tokV, lex0, r0, r1, r2, r3, t0, t1, t2]) rfl ?_
            exact ⟨rfl, HBE.out⟩
          exact AllReadyK.nil
        exact AllReadyK.nil
      exact AllReadyK.nil
end Go.Proofs.YtadlaaddpobhbaaDoor.Lx
