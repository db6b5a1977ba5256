/-
  The walks of the definition's layers 7 and 8 for texts in which no part begins. Conditions: as each says.
-/
import Derived.Test.YtljinmfkogmmlaaDoorMachB
import Derived.Test.YtljinmfkogmmlaaDoorLit1
/-
  The walks of the definition's layer 7 (parts), for texts in which no part begins.
-/
namespace Go.Proofs.YtljinmfkogmmlaaDoor.Pa
open Go.ChangeShapes Go.WideShapes Go.Deep Go.RowKit Cls Md Mc
set_option linter.unusedSimpArgs false
set_option linter.unusedVariables false
set_option maxRecDepth 100000
/-- A stack of Top alone holds no frame of any place. -/
theorem refAt_one (a f : Value) (A : Option Addr) (c : Nat) (place : Int) (w : World) : Calls Tryd.prog 65 #[.agg #[a, .slice A 1 c, f], .int .i64 place] w fun e w' => e = .returned (.int .i64 0) ∧ Below w.heap.size w w' := by
  go_enter Tryd.func65, Tryd.ntmps65
  go_wp2
  have HB := Lib.hid (BoxN.new w [a, .slice A 1 c, f] 104)
  have HL := Lib.hid (below_alloc (Below.refl w.heap.size w) (.cells #[a, .slice A 1 c, f] 104))
  go_loopw [5] (fun i wr => i = .int .i64 1 ∧ Hid (BoxN wr w.heap.size [a, .slice A 1 c, f]) ∧ Hid (Below w.heap.size w wr)) (fun i _ => 0)
  case atStart => exact ⟨rfl, HB, HL⟩
  case round =>
    clear HB HL
    obtain ⟨rfl, HB, HL⟩ := hrel
    obtain ⟨b0, b1, b2⟩ := HB.out.c3
    go_wp2
    go_ret
    exact ⟨rfl, HL.out⟩
/-- No part begins anywhere. -/
theorem refFind_none (place : Int) (w : World) : Calls Tryd.prog 38 #[.slice none 0 0, .int .i64 place] w fun e w' => e = .returned (.tuple #[.agg #[.int .i64 0, .int .i64 0, .int .i64 0, .int .i64 0, .bool false], .int .i64 0]) ∧ Below w.heap.size w w' := by
  go_enter Tryd.func38, Tryd.ntmps38
  go_wp2
  have HB := Lib.hid (BoxN.new w [.int .i64 0, .int .i64 0, .int .i64 0, .int .i64 0, .bool false] 65)
  have HL := Lib.hid (below_alloc (Below.refl w.heap.size w) (.cells #[.int .i64 0, .int .i64 0, .int .i64 0, .int .i64 0, .bool false] 65))
  go_loopw [6] (fun i wr => i = .int .i64 0 ∧ Hid (BoxN wr w.heap.size [.int .i64 0, .int .i64 0, .int .i64 0, .int .i64 0, .bool false]) ∧ Hid (Below w.heap.size w wr)) (fun i _ => 0)
  case atStart => exact ⟨rfl, HB, HL⟩
  case round =>
    clear HL HB
    obtain ⟨rfl, HB, HL⟩ := hrel
    have b0 := HB.out.c 0 _ rfl
    have b1 := HB.out.c 1 _ rfl
    have b2 := HB.out.c 2 _ rfl
    have b3 := HB.out.c 3 _ rfl
    have b4 := HB.out.c 4 _ rfl
    have p0 := HB.out.f 0
    have p1 := HB.out.f 1
    have p2 := HB.out.f 2
    have p3 := HB.out.f 3
    have p4 := HB.out.f 4
    haveI : Old wr w.heap.size := ⟨HB.out.lt⟩
    go_wp2
    have hl := HB.out.lt
    refine bodyPost_ret (v := .tuple #[.agg #[.int .i64 0, .int .i64 0, .int .i64 0, .int .i64 0, .bool false], .int .i64 0]) (by simp [results, Tryd.results38, go_sem, b0, b1, b2, b3, b4, p0, p1, p2, p3, p4]) rfl ?_
    exact ⟨rfl, below_setCell (below_setCell (below_setCell (below_setCell (below_setCell HL.out (Nat.le_refl _) _) (Nat.le_refl _) _) (Nat.le_refl _) _) (Nat.le_refl _) _) (Nat.le_refl _) _⟩
end Go.Proofs.YtljinmfkogmmlaaDoor.Pa
/-
  The walks of the definition's layer 8 (literal), for texts in which no part begins: one more byte that stands for itself.
-/
namespace Go.Proofs.YtljinmfkogmmlaaDoor.Pa
open Go.ChangeShapes Go.WideShapes Go.Deep Go.RowKit Cls Md Mc
set_option linter.unusedSimpArgs false
set_option linter.unusedVariables false
set_option maxRecDepth 100000
theorem box_row (W : World) (cs : List Value) (zs : Array Value) (t : TypeId) : BoxN (W.alloc (.cells (cs.toArray ++ zs) t)).drew W.heap.size cs := by
  have h := BoxN.new W (cs ++ zs.toList) t
  have e : (cs ++ zs.toList).toArray = cs.toArray ++ zs := by simp
  rw [e] at h
  exact ⟨h.lt, fun j u hj => h.c j u (by rw [List.getElem?_append_left (List.getElem?_eq_some_iff.1 hj).1]; exact hj), h.f⟩
theorem cut_ge (k : Nat) : 1 ≤ (Question.appendCap 1 0 45).cut k := by
  simp [Question.cut]
def PlP (w : World) (t : List UInt8) (e : Ending) (w' : World) : Prop := ∃ g c, e = .returned (.slice (some ⟨g, 0, none⟩) 1 c) ∧ 1 ≤ c ∧ BoxN w' g [.bool false, .bool false, .string (B t)] ∧ Below w.heap.size w w'
theorem refPlain_first (t : List UInt8) (w : World) : Calls Tryd.prog 39 #[.slice none 0 0, .string (B t), .bool true] w (PlP w t) := by
  go_enter Tryd.func39, Tryd.ntmps39
  go_wp2
  go_ret
  have hb := box_row ((w.alloc (.cells #[] 45)).alloc (.cells #[.bool false, .bool false, .string (B t)] 45)) [.bool false, .bool false, .string (B t)]
  have e : ((w.alloc (.cells #[] 45)).alloc (.cells #[.bool false, .bool false, .string (B t)] 45)).heap.size = w.heap.size + 1 + 1 := by simp
  rw [e] at hb
  refine ⟨_, _, rfl, ?_, hb _ _, ?_⟩
  · exact cut_ge _
  · exact below_drew (below_alloc (below_alloc (below_alloc (Below.refl _ _) _) _) _)
theorem refPlain_more (t u : List UInt8) (g c : Nat) (w : World) (h : BoxN w g [.bool false, .bool false, .string (B u)]) (hc : 1 ≤ c) (hl : (u ++ t).length ≤ 1073741824) : Calls Tryd.prog 39 #[.slice (some ⟨g, 0, none⟩) 1 c, .string (B t), .bool false] w (PlP w (u ++ t)) := by
  have HC := Lib.hid hc
  obtain ⟨b0, b1, b2⟩ := h.c3
  haveI : Old w g := ⟨h.lt⟩
  have HL := Lib.hid hl
  have hsum : ¬ 9223372036854775807 < u.length + t.length := by have := HL.out; rw [List.length_append] at this; omega
  have hw0 : IntKind.i64.wrap 0 = 0 := by decide
  have hc0 : (0 : Int) ≤ (c : Int) := by omega
  clear hl
  go_enter Tryd.func39, Tryd.ntmps39
  go_wp2
  refine wp_region_keyed (fun W => W.cell? ⟨w.heap.size, 2, none⟩ = some (.string (B u))) [12] (by kernel_rfl) ?_
  have HX := Lib.hid ((BoxN.new w [.bool false, .bool false, .string (B u)] 45).below (below_drew (Below.refl _ _)))
  have HBE := Lib.hid (below_drew (below_alloc (Below.refl w.heap.size w) (.cells #[.bool false, .bool false, .string (B u)] 45)))
  have HR := Lib.hid True.intro
  generalize World.drew _ = D at *
  refine wpAnyK_take2 (i := 1) (some 23) (v := ?v1_1z18) rfl rfl (by kernel_rfl) (by kernel_rfl) (by kernel_rfl) (by kernel_rfl) (fun _ _ _ h => h) (Or.inl ⟨by rfl, ?y1_1z18⟩) (fun _ => HX.out.c 2 _ rfl) ?r1_1z18
  case y1_1z18 =>
    intro w hSw
    go_simp
    try with_reducible rfl
  try simp only [Act.put, List.setIfInBounds_toArray, List.set_cons_zero, List.set_cons_succ]
  refine wpAnyK_take2 (i := 2) (some 24) (v := ?v2_2z18) rfl rfl (by kernel_rfl) (by kernel_rfl) (by kernel_rfl) (by kernel_rfl) (fun _ _ _ h => h) (Or.inl ⟨by rfl, ?y2_2z18⟩) (fun _ => HX.out.c 2 _ rfl) ?r2_2z18
  case y2_2z18 =>
    intro w hSw
    go_simp
    try with_reducible rfl
  try simp only [Act.put, List.setIfInBounds_toArray, List.set_cons_zero, List.set_cons_succ]
  refine wpAnyK_take2 (i := 3) (some 25) (v := ?v3_3z18) rfl rfl (by kernel_rfl) (by kernel_rfl) (by kernel_rfl) (by kernel_rfl) (fun _ _ _ h => h) (Or.inl ⟨by rfl, ?y3_3z18⟩) (fun _ => HX.out.c 2 _ rfl) ?r3_3z18
  case y3_3z18 =>
    intro w hSw
    go_simp
    try with_reducible rfl
  try simp only [Act.put, List.setIfInBounds_toArray, List.set_cons_zero, List.set_cons_succ]
  refine wpAnyK_take2 (i := 4) (some 26) (v := ?v4_4z18) rfl rfl (by kernel_rfl) (by kernel_rfl) (by kernel_rfl) (by kernel_rfl) (fun _ _ _ h => h) (Or.inl ⟨by rfl, ?y4_4z18⟩) (fun _ => HX.out.c 2 _ rfl) ?r4_4z18
  case y4_4z18 =>
    intro w hSw
    go_simp
    try with_reducible rfl
  try simp only [Act.put, List.setIfInBounds_toArray, List.set_cons_zero, List.set_cons_succ]
  refine wpAnyK_take2 (i := 6) (some 28) (v := ?v6_5z18) rfl rfl (by kernel_rfl) (by kernel_rfl) (by kernel_rfl) (by kernel_rfl) (fun _ _ _ h => h) (Or.inl ⟨by rfl, ?y6_5z18⟩) (fun _ => HX.out.c 2 _ rfl) ?r6_5z18
  case y6_5z18 =>
    intro w hSw
    go_simp
    try with_reducible rfl
  try simp only [Act.put, List.setIfInBounds_toArray, List.set_cons_zero, List.set_cons_succ]
  refine wpAnyK_load2 (i := 7) [9, 10, 11, 12, 13] (some 29) (v := ?v7_6z18) rfl rfl (by kernel_rfl) (by kernel_rfl) (by kernel_rfl) (by kernel_rfl) (by kernel_rfl) (fun _ _ _ h => h) (Or.inl ⟨by rfl, ?y7_6z18⟩) (fun _ => HX.out.c 2 _ rfl) ?r7_6z18
  case y7_6z18 =>
    intro w hSw
    (try dsimp only at hSw)
    go_split_ands
    go_simp
    try with_reducible rfl
  try simp only [Act.put, List.setIfInBounds_toArray, List.set_cons_zero, List.set_cons_succ]
  refine wpAnyK_take2 (i := 8) (some 30) (v := ?v8_7z18) rfl rfl (by kernel_rfl) (by kernel_rfl) (by kernel_rfl) (by kernel_rfl) (fun _ _ _ h => h) (Or.inl ⟨by rfl, ?y8_7z18⟩) (fun _ => HX.out.c 2 _ rfl) ?r8_7z18
  case y8_7z18 =>
    intro w hSw
    go_simp
    try with_reducible rfl
  try simp only [Act.put, List.setIfInBounds_toArray, List.set_cons_zero, List.set_cons_succ]
  refine wpAnyK_take2 (i := 9) (some 31) (v := ?v9_8z18) rfl rfl (by kernel_rfl) (by kernel_rfl) (by kernel_rfl) (by kernel_rfl) (fun _ _ _ h => h) (Or.inl ⟨by rfl, ?y9_8z18⟩) (fun _ => HX.out.c 2 _ rfl) ?r9_8z18
  case y9_8z18 =>
    intro w hSw
    go_simp
    try with_reducible rfl
  try simp only [Act.put, List.setIfInBounds_toArray, List.set_cons_zero, List.set_cons_succ]
  refine wpAnyK_take2 (i := 10) (some 32) (v := ?v10_9z18) rfl rfl (by kernel_rfl) (by kernel_rfl) (by kernel_rfl) (by kernel_rfl) (fun _ _ _ h => h) (Or.inl ⟨by rfl, ?y10_9z18⟩) (fun _ => HX.out.c 2 _ rfl) ?r10_9z18
  case y10_9z18 =>
    intro w hSw
    go_simp
    try with_reducible rfl
  try simp only [Act.put, List.setIfInBounds_toArray, List.set_cons_zero, List.set_cons_succ]
  refine wpAnyK_ready (rs := [0, 11]) (by kernel_rfl) (by simp) ?_
  refine AllReadyK.cons (i := 0) rfl (fun K hK => ?_) ?_
  · go_simp
    have HX := Lib.hid (HX.out.below (below_alloc (Below.refl _ _) (.cells #[] 45)))
    have HBE := Lib.hid (below_alloc HBE.out (.cells #[] 45))
    try have HR := Lib.hid (BoxN.below HR.out (below_alloc (Below.refl _ _) (.cells #[] 45)))
    generalize hg0 : D.heap.size = g0 at *
    generalize World.alloc D _ = D at *
    refine hK.out _ _ (fun _ => HX.out.c 2 _ rfl) ?_
    clear hK K
    try simp only [Act.put, List.setIfInBounds_toArray, List.set_cons_zero, List.set_cons_succ]
    refine wpAnyK_take2 (i := 5) (some 27) (v := ?v5_10z18) rfl rfl (by kernel_rfl) (by kernel_rfl) (by kernel_rfl) (by kernel_rfl) (fun _ _ _ h => h) (Or.inl ⟨by rfl, ?y5_10z18⟩) (fun _ => HX.out.c 2 _ rfl) ?r5_10z18
    case y5_10z18 =>
      intro w hSw
      go_simp
      try with_reducible rfl
    try simp only [Act.put, List.setIfInBounds_toArray, List.set_cons_zero, List.set_cons_succ]
    refine wpAnyK_ready (rs := [11]) (by kernel_rfl) (by simp) ?_
    refine AllReadyK.cons (i := 11) rfl (fun K hK => ?_) ?_
    · go_simp
      have HX := Lib.hid (HX.out.below (below_alloc (Below.refl _ _) (.cells #[.bool false, .bool false, .string (B (u ++ t))] 45)))
      have HBE := Lib.hid (below_alloc HBE.out (.cells #[.bool false, .bool false, .string (B (u ++ t))] 45))
      have HR := Lib.hid (BoxN.new D [.bool false, .bool false, .string (B (u ++ t))] 45)
      generalize hr0 : D.heap.size = r0 at *
      generalize World.alloc D _ = D at *
      refine hK.out _ _ (fun _ => HX.out.c 2 _ rfl) ?_
      clear hK K
      try simp only [Act.put, List.setIfInBounds_toArray, List.set_cons_zero, List.set_cons_succ]
      refine wpAnyK_ready (rs := [12]) (by kernel_rfl) (by simp) ?_
      refine AllReadyK.cons (i := 12) rfl (fun K hK => ?_) ?_
      · obtain ⟨c0, c1, c2⟩ := HR.out.c3
        go_simp
        refine hK.out _ _ (fun h => Bool.noConfusion ((show unl _ _ = false by kernel_rfl).symm.trans h)) ?_
        clear hK K
        try simp only [Act.put, List.setIfInBounds_toArray, List.set_cons_zero, List.set_cons_succ]
        refine wpAnyK_take2 (i := 13) (some 6) (v := ?v13_11z18) rfl rfl (by kernel_rfl) (by kernel_rfl) (by kernel_rfl) (by kernel_rfl) (fun _ _ _ h => h) (Or.inl ⟨by rfl, ?y13_11z18⟩) (fun h => Bool.noConfusion ((show unl _ _ = false by kernel_rfl).symm.trans h)) ?r13_11z18
        case y13_11z18 =>
          intro w hSw
          go_simp
          try with_reducible rfl
        try simp only [Act.put, List.setIfInBounds_toArray, List.set_cons_zero, List.set_cons_succ]
        refine wpAnyK_done (by kernel_rfl) ?_ _
        have hb := box_row D [.bool false, .bool false, .string (B (u ++ t))]
        have hbe := HBE.out
        go_wp2
        go_ret
        exact ⟨_, _, rfl, cut_ge _, hb _ _, below_drew (below_alloc hbe _)⟩
      exact AllReadyK.nil
    exact AllReadyK.nil
  refine AllReadyK.cons (i := 11) rfl (fun K hK => ?_) ?_
  · go_simp
    have HX := Lib.hid (HX.out.below (below_alloc (Below.refl _ _) (.cells #[.bool false, .bool false, .string (B (u ++ t))] 45)))
    have HBE := Lib.hid (below_alloc HBE.out (.cells #[.bool false, .bool false, .string (B (u ++ t))] 45))
    have HR := Lib.hid (BoxN.new D [.bool false, .bool false, .string (B (u ++ t))] 45)
    generalize hr0 : D.heap.size = r0 at *
    generalize World.alloc D _ = D at *
    refine hK.out _ _ (fun _ => HX.out.c 2 _ rfl) ?_
    clear hK K
    try simp only [Act.put, List.setIfInBounds_toArray, List.set_cons_zero, List.set_cons_succ]
    refine wpAnyK_ready (rs := [0]) (by kernel_rfl) (by simp) ?_
    refine AllReadyK.cons (i := 0) rfl (fun K hK => ?_) ?_
    · go_simp
      have HX := Lib.hid (HX.out.below (below_alloc (Below.refl _ _) (.cells #[] 45)))
      have HBE := Lib.hid (below_alloc HBE.out (.cells #[] 45))
      try have HR := Lib.hid (BoxN.below HR.out (below_alloc (Below.refl _ _) (.cells #[] 45)))
      generalize hg0 : D.heap.size = g0 at *
      generalize World.alloc D _ = D at *
      refine hK.out _ _ (fun _ => HX.out.c 2 _ rfl) ?_
      clear hK K
      try simp only [Act.put, List.setIfInBounds_toArray, List.set_cons_zero, List.set_cons_succ]
      refine wpAnyK_take2 (i := 5) (some 27) (v := ?v5_12z18) rfl rfl (by kernel_rfl) (by kernel_rfl) (by kernel_rfl) (by kernel_rfl) (fun _ _ _ h => h) (Or.inl ⟨by rfl, ?y5_12z18⟩) (fun _ => HX.out.c 2 _ rfl) ?r5_12z18
      case y5_12z18 =>
        intro w hSw
        go_simp
        try with_reducible rfl
      try simp only [Act.put, List.setIfInBounds_toArray, List.set_cons_zero, List.set_cons_succ]
      refine wpAnyK_ready (rs := [12]) (by kernel_rfl) (by simp) ?_
      refine AllReadyK.cons (i := 12) rfl (fun K hK => ?_) ?_
      · obtain ⟨c0, c1, c2⟩ := HR.out.c3
        go_simp
        refine hK.out _ _ (fun h => Bool.noConfusion ((show unl _ _ = false by kernel_rfl).symm.trans h)) ?_
        clear hK K
        try simp only [Act.put, List.setIfInBounds_toArray, List.set_cons_zero, List.set_cons_succ]
        refine wpAnyK_take2 (i := 13) (some 6) (v := ?v13_13z18) rfl rfl (by kernel_rfl) (by kernel_rfl) (by kernel_rfl) (by kernel_rfl) (fun _ _ _ h => h) (Or.inl ⟨by rfl, ?y13_13z18⟩) (fun h => Bool.noConfusion ((show unl _ _ = false by kernel_rfl).symm.trans h)) ?r13_13z18
        case y13_13z18 =>
          intro w hSw
          go_simp
          try with_reducible rfl
        try simp only [Act.put, List.setIfInBounds_toArray, List.set_cons_zero, List.set_cons_succ]
        refine wpAnyK_done (by kernel_rfl) ?_ _
        have hb := box_row D [.bool false, .bool false, .string (B (u ++ t))]
        have hbe := HBE.out
        go_wp2
        go_ret
        exact ⟨_, _, rfl, cut_ge _, hb _ _, below_drew (below_alloc hbe _)⟩
      exact AllReadyK.nil
    exact AllReadyK.nil
  exact AllReadyK.nil
end Go.Proofs.YtljinmfkogmmlaaDoor.Pa
/-
  The walk of the definition's pieces (layer 8) of a text in which no part begins: one piece at most, that stands for itself. Conditions: texts of at most 10^6 bytes; that ref07.Of answers no parts (a premise of the lemma: still to be shown).
-/
namespace Go.Proofs.YtljinmfkogmmlaaDoor.Pa
open Go.ChangeShapes Go.WideShapes Go.Deep Go.RowKit Cls Md Mc
set_option linter.unusedSimpArgs false
set_option linter.unusedVariables false
set_option maxRecDepth 100000
/-- What is told of the pieces behind k bytes. -/
def PiI (w : World) (s : List UInt8) (k : Nat) (vo vf : Value) (W : World) : Prop :=
  ((k = 0 ∧ vo = .slice none 0 0 ∧ vf = .bool true) ∨ (0 < k ∧ vf = .bool false ∧ ∃ g c, vo = .slice (some ⟨g, 0, none⟩) 1 c ∧ 1 ≤ c ∧ BoxN W g [.bool false, .bool false, .string (B (s.take k))])) ∧ Below w.heap.size w W
theorem refPieces_none (s : List UInt8) (w : World) (hs : s.length ≤ 1000000) (hOf : ∀ W, Calls Tryd.prog 37 #[.string (B s)] W fun e w' => e = .returned (.slice none 0 0) ∧ Below W.heap.size W w') : Calls Tryd.prog 20 #[.string (B s)] w fun e w' => ∃ vo vf, e = .returned vo ∧ PiI w s s.length vo vf w' := by
  have HOF := Lib.hid (hOf w)
  clear hOf
  go_enter Tryd.func20, Tryd.ntmps20
  go_wp2_with (go_at_call 37; refine HOF.out.mono ?_; rintro e w1 ⟨rfl, hb⟩; have HB := Lib.hid hb; clear hb)
  have HI := Lib.hid (show PiI w s 0 (.slice none 0 0) (.bool true) w1 from ⟨.inl ⟨rfl, rfl, rfl⟩, HB.out⟩)
  clear HB HOF
  go_loopw [4, 5, 6] (fun vo vf i wr => ∃ k : Nat, k ≤ s.length ∧ i = .int .i64 k ∧ Hid (PiI w s k vo vf wr)) (fun _ _ i _ => s.length - (intOf i).toNat)
  case atStart => exact ⟨0, by omega, rfl, HI.out⟩
  case round =>
    clear HI
    obtain ⟨k, hk, rfl, HI⟩ := hrel
    by_cases hlt : k < s.length
    · have h0 : (0 : Int) ≤ (k : Int) := by omega
      have h1 : (k : Int) < (s.length : Int) := by omega
      obtain ⟨hh, hbe⟩ := HI.out
      have HBE := Lib.hid hbe
      clear HI hbe
      rcases hh with ⟨rfl, rfl, rfl⟩ | ⟨hk0, rfl, g, c, rfl, hc, hbx⟩
      · go_wp2_with (first
          | (go_at_call 38; refine (refFind_none _ _).mono ?_; rintro e w2 ⟨rfl, hb⟩; have HB2 := Lib.hid (below_then HBE.out hb); clear hb)
          | (go_at_call 39; refine (refPlain_first _ _).mono ?_; rintro e w3 ⟨g, c, rfl, hc, hbx, hb⟩; have HX := Lib.hid hbx; have HC := Lib.hid hc; have HB3 := Lib.hid hb; clear hb hbx hc))
        exact ⟨⟨1, by omega, rfl, Lib.hid ⟨.inr ⟨by omega, rfl, g, c, rfl, HC.out, HX.out⟩, below_then (below_alloc HB2.out _) HB3.out⟩⟩, by simp [intOf]; omega⟩
      · have HX := Lib.hid hbx
        have HC := Lib.hid hc
        have hcat : s.take k ++ (s.take (k + 1)).drop k = s.take (k + 1) := by
          conv => rhs; rw [← List.take_append_drop k (s.take (k + 1))]
          rw [List.take_take, Nat.min_eq_left (by omega)]
        have HCT := Lib.hid hcat
        have HLN := Lib.hid (show (s.take k ++ (s.take (k + 1)).drop k).length ≤ 1073741824 by rw [hcat, List.length_take]; omega)
        clear hbx hc hcat
        go_wp2_with (first
          | (go_at_call 38; refine (refFind_none _ _).mono ?_; rintro e w2 ⟨rfl, hb⟩; have HB2 := Lib.hid (below_then HBE.out hb); have HX2 := Lib.hid (HX.out.below hb); clear hb)
          | (go_at_call 39; refine (refPlain_more _ _ _ _ _ (HX2.out.below (below_alloc (Below.refl _ _) _)) HC.out HLN.out).mono ?_; rintro e w3 ⟨g3, c3, rfl, hc, hbx, hb⟩; have HX3 := Lib.hid hbx; have HC3 := Lib.hid hc; have HB3 := Lib.hid hb; clear hb hbx hc))
        exact ⟨⟨k + 1, by omega, rfl, Lib.hid ⟨.inr ⟨by omega, rfl, g3, c3, rfl, HC3.out, by rw [← HCT.out]; exact HX3.out⟩, below_then (below_alloc HB2.out _) HB3.out⟩⟩, by simp [intOf]; omega⟩
    · have hk' : k = s.length := by omega
      subst hk'
      go_wp2
      go_ret
      exact ⟨_, _, rfl, HI.out⟩
end Go.Proofs.YtljinmfkogmmlaaDoor.Pa
/-
  The walk of the definition's ref08.Expands on a text in which no part begins. The premise hOf: as in RefPieces.
-/
namespace Go.Proofs.YtljinmfkogmmlaaDoor.Pa
open Go.ChangeShapes Go.WideShapes Go.Deep Go.RowKit Cls Md Mc
set_option linter.unusedSimpArgs false
set_option linter.unusedVariables false
set_option maxRecDepth 100000
theorem refExpands_none (s : List UInt8) (w : World) (hs : s.length ≤ 1000000) (hOf : ∀ W, Calls Tryd.prog 37 #[.string (B s)] W fun e w' => e = .returned (.slice none 0 0) ∧ Below W.heap.size W w') : Calls Tryd.prog 8 #[.string (B s)] w fun e w' => e = .returned (.bool false) ∧ Below w.heap.size w w' := by
  have HP := Lib.hid (refPieces_none s w hs hOf)
  clear hOf
  go_enter Tryd.func8, Tryd.ntmps8
  go_wp2_with (go_at_call 20; refine HP.out.mono ?_; rintro e w1 ⟨vo, vf, rfl, hI⟩; have HI := Lib.hid hI; clear hI)
  obtain ⟨hh, hbe⟩ := HI.out
  have HBE := Lib.hid hbe
  clear HI hbe HP
  rcases hh with ⟨h0, rfl, rfl⟩ | ⟨h0, rfl, g, c, rfl, hc, hbx⟩
  · go_loopw [4] (fun i wr => i = .int .i64 0 ∧ Hid (Below w.heap.size w wr)) (fun _ _ => 0)
    case atStart => exact ⟨rfl, HBE⟩
    case round =>
      clear HBE
      obtain ⟨rfl, HBE⟩ := hrel
      go_wp2
      go_ret
      exact ⟨rfl, HBE.out⟩
  · have HC := Lib.hid hc
    have HX := Lib.hid hbx
    clear hc hbx
    go_loopw [4] (fun i wr => (i = .int .i64 0 ∨ i = .int .i64 1) ∧ Hid (BoxN wr g [.bool false, .bool false, .string (B (s.take s.length))]) ∧ Hid (Below w.heap.size w wr)) (fun i _ => 1 - (intOf i).toNat)
    case atStart => exact ⟨.inl rfl, HX, HBE⟩
    case round =>
      clear HBE HX
      obtain ⟨hi, HX, HBE⟩ := hrel
      obtain ⟨b0, b1, b2⟩ := HX.out.c3
      haveI : Old wr g := ⟨HX.out.lt⟩
      rcases hi with rfl | rfl
      · go_wp2
        exact ⟨⟨.inr (by go_num), HX, HBE⟩, by simp [intOf]⟩
      · go_wp2
        go_ret
        exact ⟨rfl, HBE.out⟩
end Go.Proofs.YtljinmfkogmmlaaDoor.Pa
