/-
  The walks of layer 9's reference (token), in part: blanks, one token from a state in which nothing is awaited. Conditions: texts of at most 2^29 bytes.
-/
import Derived.Test.YtadlaaddpobhbaaDoorLex1
namespace Go.Proofs.YtadlaaddpobhbaaDoor.Lx
open Go.ChangeShapes Go.WideShapes Go.Deep Go.RowKit Cls Md
set_option maxRecDepth 100000
/-- How many bytes at the beginning are blank. -/
def blankN : List UInt8 → Nat
  | [] => 0
  | [c] => if c = 32 ∨ c = 9 then 1 else 0
  | c :: d :: l => if c = 32 ∨ c = 9 then 1 + blankN (d :: l) else if c = 92 ∧ d = 10 then 2 + blankN l else 0
theorem blankN_le : ∀ l, blankN l ≤ l.length
  | [] => Nat.le_refl _
  | [c] => by unfold blankN; split <;> simp
  | c :: d :: l => by
    have h1 := blankN_le (d :: l)
    have h2 := blankN_le l
    unfold blankN
    simp at h1 ⊢
    split
    · omega
    · split <;> omega
theorem blankN_a {s : List UInt8} {k : Nat} (h : k < s.length) (hc : s[k] = 32 ∨ s[k] = 9) : blankN (s.drop k) = 1 + blankN (s.drop (k + 1)) := by
  rw [List.drop_eq_getElem_cons h]
  cases hd : s.drop (k + 1) with
  | nil => unfold blankN; rw [if_pos hc]
  | cons d l => conv => lhs; unfold blankN
                rw [if_pos hc]
theorem blankN_b {s : List UInt8} {k : Nat} (h : k < s.length) (h1 : k + 1 < s.length) (hc : s[k] = 92) (hd : s[k + 1] = 10) : blankN (s.drop k) = 2 + blankN (s.drop (k + 2)) := by
  rw [List.drop_eq_getElem_cons h, List.drop_eq_getElem_cons h1]
  conv => lhs; unfold blankN
  rw [if_neg (by rw [hc]; decide), if_pos ⟨hc, hd⟩]
theorem blankN_c {s : List UInt8} {k : Nat} (h : k < s.length) (hc : ¬ (s[k] = 32 ∨ s[k] = 9)) (hd : s[k] = 92 → ∀ h1 : k + 1 < s.length, s[k + 1] ≠ 10) : blankN (s.drop k) = 0 := by
  rw [List.drop_eq_getElem_cons h]
  cases hdr : s.drop (k + 1) with
  | nil => unfold blankN; rw [if_neg hc]
  | cons d l =>
    have h1 : k + 1 < s.length := by
      rcases Nat.lt_or_ge (k + 1) s.length with h1 | h1
      · exact h1
      · rw [List.drop_eq_nil_of_le h1] at hdr; cases hdr
    rw [List.drop_eq_getElem_cons h1] at hdr
    injection hdr with e1 e2
    unfold blankN
    rw [if_neg hc, if_neg]
    rintro ⟨e3, e4⟩
    exact hd e3 h1 (e1.trans e4)
set_option maxHeartbeats 2000000 in
theorem blank_any (s : List UInt8) (a : Nat) (w : World) (hs : s.length ≤ 536870912) (ha : a ≤ s.length) : Calls Tryd.prog 47 #[.string (B s), .int .i64 a] w fun e w' => e = .returned (.int .i64 ((a + blankN (s.drop a) : Nat) : Int)) ∧ w = w' := by
  go_enter Tryd.func47, Tryd.ntmps47
  go_wp2
  go_loopw [1] (fun i w' => ∃ k : Nat, k ≤ s.length ∧ i = .int .i64 k ∧ w = w' ∧ Hid (a + blankN (s.drop a) = k + blankN (s.drop k))) (fun i _ => s.length - (intOf i).toNat)
  case atStart => exact ⟨a, ha, rfl, rfl, rfl⟩
  case round =>
    clear ha
    obtain ⟨k, hk, rfl, rfl, HK⟩ := hrel
    by_cases hlt : k < s.length
    · have h0 : (0 : Int) ≤ (k : Int) := by omega
      have h1 : (k : Int) < (s.length : Int) := by omega
      by_cases c32 : s[k] = 32
      · have e1 := Pat.is_b (n := 32) rfl c32
        have HX := Lib.hid (show a + blankN (s.drop a) = (k + 1) + blankN (s.drop (k + 1)) by rw [HK.out, blankN_a hlt (.inl c32)]; omega)
        clear c32 HK
        go_wp2
        go_roundw
        case rel => exact ⟨k + 1, by omega, by go_num, by trivial, HX.out⟩
        case measure => simp [intOf]; omega
      by_cases c9 : s[k] = 9
      · have e1 := Pat.not_b (n := 32) rfl c32
        have e2 := Pat.is_b (n := 9) rfl c9
        have HX := Lib.hid (show a + blankN (s.drop a) = (k + 1) + blankN (s.drop (k + 1)) by rw [HK.out, blankN_a hlt (.inr c9)]; omega)
        clear c32 c9 HK
        go_wp2
        go_roundw
        case rel => exact ⟨k + 1, by omega, by go_num, by trivial, HX.out⟩
        case measure => simp [intOf]; omega
      have e1 := Pat.not_b (n := 32) rfl c32
      have e2 := Pat.not_b (n := 9) rfl c9
      by_cases c92 : s[k] = 92
      · have e3 := Pat.is_b (n := 92) rfl c92
        by_cases hk1 : k + 1 < s.length
        · have h2 : (k : Int) + 1 < (s.length : Int) := by omega
          have h3 : (0 : Int) ≤ (k : Int) + 1 := by omega
          by_cases c10 : s[k + 1] = 10
          · have e4 := Pat.is_b (n := 10) rfl c10
            have HX := Lib.hid (show a + blankN (s.drop a) = (k + 2) + blankN (s.drop (k + 2)) by rw [HK.out, blankN_b hlt hk1 c92 c10]; omega)
            clear c32 c9 c92 c10 HK
            go_wp2
            go_roundw
            case rel => exact ⟨k + 2, by omega, by go_num, by trivial, HX.out⟩
            case measure => simp [intOf]; omega
          · have e4 := Pat.not_b (n := 10) rfl c10
            have HX := Lib.hid (show a + blankN (s.drop a) = k by rw [HK.out, blankN_c hlt (by simp [c32, c9]) (fun _ _ => c10)]; omega)
            clear c32 c9 c92 c10 HK
            go_wp2
            go_ret
            exact ⟨by rw [HX.out]; rfl, rfl⟩
        · have h2 := no (show ¬ (k : Int) + 1 < (s.length : Int) by omega)
          have HX := Lib.hid (show a + blankN (s.drop a) = k by rw [HK.out, blankN_c hlt (by simp [c32, c9]) (fun _ h => absurd h hk1)]; omega)
          clear c32 c9 c92 HK hk1
          go_wp2
          go_ret
          exact ⟨by rw [HX.out]; rfl, rfl⟩
      · have e3 := Pat.not_b (n := 92) rfl c92
        have HX := Lib.hid (show a + blankN (s.drop a) = k by rw [HK.out, blankN_c hlt (by simp [c32, c9]) (fun h => absurd h c92)]; omega)
        clear c32 c9 c92 HK
        go_wp2
        go_ret
        exact ⟨by rw [HX.out]; rfl, rfl⟩
    · have hk' : k = s.length := by omega
      subst hk'
      have HX := Lib.hid (show a + blankN (s.drop a) = s.length by rw [HK.out, List.drop_length]; rfl)
      clear hlt HK
      go_wp2
      go_ret
      exact ⟨by rw [HX.out]; rfl, rfl⟩
/-- The state in which nothing is awaited. -/
def lex0 : Value := .agg #[.int .i64 0, .slice none 0 0, .bool false]
def tokV (kind : Int) (a b : Nat) (o : Bool) : Value := .agg #[.int .i64 kind, .int .i64 a, .int .i64 b, .bool o]
def StepP (kind : Int) (a b : Nat) (o : Bool) (w : World) (e : Ending) (w' : World) : Prop := e = .returned (.tuple #[tokV kind a b o, lex0]) ∧ Below w.heap.size w w'
theorem box4 {w : World} {b : Nat} {u0 u1 u2 u3 : Value} (h : BoxN w b [u0, u1, u2, u3]) : (w.cell? ⟨b, 0, none⟩ = some u0 ∧ w.cell? ⟨b, 1, none⟩ = some u1 ∧ w.cell? ⟨b, 2, none⟩ = some u2 ∧ w.cell? ⟨b, 3, none⟩ = some u3) ∧ (w.frozen? ⟨b, 0, none⟩ = false ∧ w.frozen? ⟨b, 1, none⟩ = false ∧ w.frozen? ⟨b, 2, none⟩ = false ∧ w.frozen? ⟨b, 3, none⟩ = false) :=
  ⟨⟨h.c 0 _ rfl, h.c 1 _ rfl, h.c 2 _ rfl, h.c 3 _ rfl⟩, h.f 0, h.f 1, h.f 2, h.f 3⟩
theorem box3 {w : World} {b : Nat} {u0 u1 u2 : Value} (h : BoxN w b [u0, u1, u2]) : (w.cell? ⟨b, 0, none⟩ = some u0 ∧ w.cell? ⟨b, 1, none⟩ = some u1 ∧ w.cell? ⟨b, 2, none⟩ = some u2) ∧ (w.frozen? ⟨b, 0, none⟩ = false ∧ w.frozen? ⟨b, 1, none⟩ = false ∧ w.frozen? ⟨b, 2, none⟩ = false) :=
  ⟨⟨h.c 0 _ rfl, h.c 1 _ rfl, h.c 2 _ rfl⟩, h.f 0, h.f 1, h.f 2⟩
/-- The frame of Step: the state that came in, the results' blocks. -/
structure SFr (w D : World) : Prop where
  bx : BoxN D w.heap.size [.int .i64 0, .slice none 0 0, .bool false]
  tk : BoxN D (w.heap.size + 1) [.int .i64 0, .int .i64 0, .int .i64 0, .bool false]
  lx : BoxN D (w.heap.size + 2) [.int .i64 0, .slice none 0 0, .bool false]
  be : Below w.heap.size w D
theorem SFr.below {w D D' : World} (h : SFr w D) (hb : Below D.heap.size D D') : SFr w D' := ⟨h.bx.below hb, h.tk.below hb, h.lx.below hb, below_then h.be hb⟩
theorem SFr.new (w : World) (t1 t2 t3 : TypeId) : SFr w (((w.alloc (.cells #[.int .i64 0, .slice none 0 0, .bool false] t1)).alloc (.cells #[.int .i64 0, .int .i64 0, .int .i64 0, .bool false] t2)).alloc (.cells #[.int .i64 0, .slice none 0 0, .bool false] t3)) := by
  have h1 := BoxN.new w [.int .i64 0, .slice none 0 0, .bool false] t1
  have h2 := BoxN.new (w.alloc (.cells #[.int .i64 0, .slice none 0 0, .bool false] t1)) [.int .i64 0, .int .i64 0, .int .i64 0, .bool false] t2
  have h3 := BoxN.new ((w.alloc (.cells #[.int .i64 0, .slice none 0 0, .bool false] t1)).alloc (.cells #[.int .i64 0, .int .i64 0, .int .i64 0, .bool false] t2)) [.int .i64 0, .slice none 0 0, .bool false] t3
  rw [show (w.alloc (.cells #[.int .i64 0, .slice none 0 0, .bool false] t1)).heap.size = w.heap.size + 1 by simp] at h2
  rw [show ((w.alloc (.cells #[.int .i64 0, .slice none 0 0, .bool false] t1)).alloc (.cells #[.int .i64 0, .int .i64 0, .int .i64 0, .bool false] t2)).heap.size = w.heap.size + 2 by simp] at h3
  exact ⟨(h1.below (below_alloc (Below.refl _ _) _)).below (below_alloc (Below.refl _ _) _), h2.below (below_alloc (Below.refl _ _) _), h3, by (repeat (first | exact Below.refl _ _ | assumption | with_reducible refine below_alloc ?_ _ | with_reducible refine below_grow ?_ _ | with_reducible refine below_drewN ?_ _ | with_reducible refine below_drew ?_ | with_reducible refine below_setCell ?_ (by first | (dsimp only; omega) | (simp; done) | (simp; omega)) _))⟩
theorem keeps_set4 (D : World) (b : Nat) (x0 x1 x2 x3 : Value) : Keeps (fun k => k = b) D ((((D.setCell ⟨b, 0, none⟩ x0).setCell ⟨b, 1, none⟩ x1).setCell ⟨b, 2, none⟩ x2).setCell ⟨b, 3, none⟩ x3) := (keeps_set3 D b x0 x1 x2).trans (Keeps.setCell (F := fun k => k = b) _ (a := ⟨b, 3, none⟩) rfl x3)
theorem box_set4 {D : World} {b : Nat} {u0 u1 u2 u3 : Value} (h : BoxN D b [u0, u1, u2, u3]) (x0 x1 x2 x3 : Value) : BoxN ((((D.setCell ⟨b, 0, none⟩ x0).setCell ⟨b, 1, none⟩ x1).setCell ⟨b, 2, none⟩ x2).setCell ⟨b, 3, none⟩ x3) b [x0, x1, x2, x3] := by
  have h3 : BoxN D b [u0, u1, u2] := ⟨h.lt, fun j u hj => h.c j u (by
    match j, hj with
    | 0, hj => exact hj
    | 1, hj => exact hj
    | 2, hj => exact hj), h.f⟩
  have hs := box_set3 h3 x0 x1 x2
  refine ⟨by have := hs.lt; simpa [World.setCell] using this, fun j u hj => ?_, fun j => by rw [World.frozen?_setCell]; exact hs.f j⟩
  match j, hj with
  | 0, hj => rw [World.cell?_setCell_other _ _ _ _ (by simp)]; exact hs.c 0 u hj
  | 1, hj => rw [World.cell?_setCell_other _ _ _ _ (by simp)]; exact hs.c 1 u hj
  | 2, hj => rw [World.cell?_setCell_other _ _ _ _ (by simp)]; exact hs.c 2 u hj
  | 3, hj =>
    cases hj
    refine World.cell?_setCell_same' _ _ _ ?_
    rw [World.cell?_setCell_other _ _ _ _ (by simp), World.cell?_setCell_other _ _ _ _ (by simp), World.cell?_setCell_other _ _ _ _ (by simp), h.c 3 _ rfl]
    rfl
set_option maxHeartbeats 1000000 in
theorem step_blank (s : List UInt8) (a : Nat) (w : World) (hs : s.length ≤ 536870912) (ha : a < s.length) (hb : 0 < blankN (s.drop a)) : Calls Tryd.prog 29 #[.string (B s), .int .i64 a, lex0] w (StepP 1 a (a + blankN (s.drop a)) false w) := by
  have HB := Lib.hid fun w => blank_any s a w hs (by omega)
  unfold lex0
  obtain ⟨m, hm⟩ : ∃ m, m = a + blankN (s.drop a) := ⟨_, rfl⟩
  rw [← hm] at HB ⊢
  have h1 : (a : Int) < (m : Int) := by omega
  clear hm hb
  have HF := Lib.hid (SFr.new w 30 34 30)
  go_enter Tryd.func29, Tryd.ntmps29
  go_wp2_with (go_at_call 47; refine (HB.out _).mono ?_; rintro e w' ⟨rfl, rfl⟩)
  refine wp_region_keyed (fun W => W.cell? ⟨w.heap.size, 0, none⟩ = some (.int .i64 0) ∧ W.cell? ⟨w.heap.size, 1, none⟩ = some (.slice none 0 0) ∧ W.cell? ⟨w.heap.size, 2, none⟩ = some (.bool false)) [5] (by kernel_rfl) ?_
  have HF := Lib.hid (HF.out.below (below_drew (Below.refl _ _)))
  generalize World.drew _ = D at *
  have HX := Lib.hid HF.out.bx
  have HT := Lib.hid HF.out.tk
  have HL := Lib.hid HF.out.lx
  have HBE := Lib.hid HF.out.be
  clear HF
  refine wpAnyK_take2 (i := 0) (some 53) (v := ?v0_1z12) rfl rfl (by kernel_rfl) (by kernel_rfl) (by kernel_rfl) (by kernel_rfl) (fun _ _ _ h => h) (Or.inl ⟨by rfl, ?y0_1z12⟩) (fun _ => (box3 HX.out).1) ?r0_1z12
  case y0_1z12 =>
    intro w hSw
    go_simp
    try with_reducible rfl
  try simp only [Act.put, List.setIfInBounds_toArray, List.set_cons_zero, List.set_cons_succ]
  refine wpAnyK_take2 (i := 1) (some 54) (v := ?v1_2z12) rfl rfl (by kernel_rfl) (by kernel_rfl) (by kernel_rfl) (by kernel_rfl) (fun _ _ _ h => h) (Or.inl ⟨by rfl, ?y1_2z12⟩) (fun _ => (box3 HX.out).1) ?r1_2z12
  case y1_2z12 =>
    intro w hSw
    go_simp
    try with_reducible rfl
  try simp only [Act.put, List.setIfInBounds_toArray, List.set_cons_zero, List.set_cons_succ]
  refine wpAnyK_take2 (i := 2) (some 55) (v := ?v2_3z12) rfl rfl (by kernel_rfl) (by kernel_rfl) (by kernel_rfl) (by kernel_rfl) (fun _ _ _ h => h) (Or.inl ⟨by rfl, ?y2_3z12⟩) (fun _ => (box3 HX.out).1) ?r2_3z12
  case y2_3z12 =>
    intro w hSw
    go_simp
    try with_reducible rfl
  try simp only [Act.put, List.setIfInBounds_toArray, List.set_cons_zero, List.set_cons_succ]
  refine wpAnyK_load2 (i := 3) [5] (some 56) (v := ?v3_4z12) rfl rfl (by kernel_rfl) (by kernel_rfl) (by kernel_rfl) (by kernel_rfl) (by kernel_rfl) (fun _ _ _ h => h) (Or.inl ⟨by rfl, ?y3_4z12⟩) (fun _ => (box3 HX.out).1) ?r3_4z12
  case y3_4z12 =>
    intro w hSw
    (try dsimp only at hSw)
    go_split_ands
    go_simp
    try with_reducible rfl
  try simp only [Act.put, List.setIfInBounds_toArray, List.set_cons_zero, List.set_cons_succ]
  refine wpAnyK_ready (rs := [4]) (by kernel_rfl) (by simp) ?_
  refine AllReadyK.cons (i := 4) rfl (fun K hK => ?_) ?_
  · obtain ⟨⟨r0, r1, r2, r3⟩, q0, q1, q2, q3⟩ := box4 HT.out
    go_simp
    have hk4 := keeps_set4 D (w.heap.size + 1) (.int .i64 1) (.int .i64 a) (.int .i64 m) (.bool false)
    have HX := Lib.hid (HX.out.keeps hk4 (by omega))
    have HT := Lib.hid (box_set4 HT.out (.int .i64 1) (.int .i64 a) (.int .i64 m) (.bool false))
    have HL := Lib.hid (HL.out.keeps hk4 (by omega))
    have HBE := Lib.hid (below_keeps HBE.out hk4 (fun k e => by omega))
    clear hk4 r0 r1 r2 r3 q0 q1 q2 q3
    generalize World.setCell (World.setCell (World.setCell (World.setCell D _ _) _ _) _ _) _ _ = D at *
    refine hK.out _ _ (fun _ => (box3 HX.out).1) ?_
    clear hK K
    try simp only [Act.put, List.setIfInBounds_toArray, List.set_cons_zero, List.set_cons_succ]
    refine wpAnyK_ready (rs := [5]) (by kernel_rfl) (by simp) ?_
    refine AllReadyK.cons (i := 5) rfl (fun K hK => ?_) ?_
    · obtain ⟨⟨t0, t1, t2⟩, u0, u1, u2⟩ := box3 HL.out
      go_simp
      have hk5 := keeps_set3 D (w.heap.size + 2) (.int .i64 0) (.slice none 0 0) (.bool false)
      have HX := Lib.hid (HX.out.keeps hk5 (by omega))
      have HT := Lib.hid (HT.out.keeps hk5 (by omega))
      have HL := Lib.hid (box_set3 HL.out (.int .i64 0) (.slice none 0 0) (.bool false))
      have HBE := Lib.hid (below_keeps HBE.out hk5 (fun k e => by omega))
      clear hk5 t0 t1 t2 u0 u1 u2
      generalize World.setCell (World.setCell (World.setCell D _ _) _ _) _ _ = D at *
      refine hK.out _ _ (fun h => Bool.noConfusion ((show unl _ _ = false by kernel_rfl).symm.trans h)) ?_
      clear hK K
      try simp only [Act.put, List.setIfInBounds_toArray, List.set_cons_zero, List.set_cons_succ]
      refine wpAnyK_done (by kernel_rfl) ?_ _
      obtain ⟨⟨r0, r1, r2, r3⟩, -⟩ := box4 HT.out
      obtain ⟨⟨t0, t1, t2⟩, -⟩ := box3 HL.out
      go_wp2
      refine bodyPost_ret (v := .tuple #[tokV 1 a m false, lex0]) (by simp [results, Tryd.results29, go_sem, tokV, lex0, r0, r1, r2, r3, t0, t1, t2]) rfl ?_
      exact ⟨rfl, HBE.out⟩
    exact AllReadyK.nil
  exact AllReadyK.nil
end Go.Proofs.YtadlaaddpobhbaaDoor.Lx
