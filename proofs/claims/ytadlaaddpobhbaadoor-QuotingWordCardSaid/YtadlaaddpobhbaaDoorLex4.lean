/-
  The walk of layer 9's reference (token): all tokens of a text in which nothing is awaited. Conditions: texts of at most 2^29 bytes.
-/
import Derived.Test.YtadlaaddpobhbaaDoorLex3
namespace Go.Proofs.YtadlaaddpobhbaaDoor.Lx
set_option linter.unusedSimpArgs false
set_option linter.unusedVariables false
open Go.ChangeShapes Go.WideShapes Go.Deep Go.RowKit Cls Md
set_option maxRecDepth 100000
/-- A token: its kind, its end, whether it is open. -/
structure Tk where
  kind : Int
  a : Nat
  m : Nat
  o : Bool
def Tk.cells (t : Tk) : List Value := [.int .i64 t.kind, .int .i64 t.a, .int .i64 t.m, .bool t.o]
/-- One token stands at a place, and nothing is awaited behind it. -/
def TokAt (s : List UInt8) (t : Tk) : Prop := t.a < t.m ∧ t.m ≤ s.length ∧ ∃ h : t.a < s.length,
  (0 < blankN (s.drop t.a) ∧ t.kind = 1 ∧ t.m = t.a + blankN (s.drop t.a) ∧ t.o = false) ∨
  (blankN (s.drop t.a) = 0 ∧ s[t.a] = 10 ∧ t.kind = 2 ∧ t.m = t.a + 1 ∧ t.o = false) ∨
  (blankN (s.drop t.a) = 0 ∧ s[t.a] ≠ 10 ∧ s[t.a] ≠ 35 ∧ opL (s.drop t.a) ≠ 0 ∧ opL (s.drop t.a) ≠ 4 ∧ opL (s.drop t.a) ≠ 5 ∧ t.kind = 4 ∧ t.m = t.a + (opT (opL (s.drop t.a))).length ∧ t.o = false) ∨
  (blankN (s.drop t.a) = 0 ∧ s[t.a] ≠ 10 ∧ s[t.a] ≠ 35 ∧ opL (s.drop t.a) = 0 ∧
    (∀ h : t.a + spanN digitB (s.drop t.a) < s.length, 0 < spanN digitB (s.drop t.a) → s[t.a + spanN digitB (s.drop t.a)] ≠ 60 ∧ s[t.a + spanN digitB (s.drop t.a)] ≠ 62) ∧
    t.kind = 6 ∧ t.m = endN s t.a ∧ t.o = !(lets (run ((s.take (endN s t.a)).drop t.a)).l == [84] || lets (run ((s.take (endN s t.a)).drop t.a)).l == [84, 76]))
theorem step_tok {s : List UInt8} {t : Tk} (h : TokAt s t) (hs : s.length ≤ 536870912) (w : World) : Calls Tryd.prog 29 #[.string (B s), .int .i64 t.a, lex0] w (StepP t.kind t.a t.m t.o w) := by
  obtain ⟨kind, a, m, o⟩ := t
  obtain ⟨h1, h2, ha, h⟩ := h
  dsimp only at h1 h2 ha h ⊢
  rcases h with ⟨g1, rfl, rfl, rfl⟩ | ⟨g1, g2, rfl, rfl, rfl⟩ | ⟨g1, g2, g3, g4, g5, g6, rfl, rfl, rfl⟩ | ⟨g1, g2, g3, g4, g5, rfl, rfl, rfl⟩
  · exact step_blank s a w hs ha g1
  · exact step_line s a w hs ha g1 g2
  · exact step_op s a w hs ha g1 g2 g3 g4 g5 g6
  · exact step_word s a w hs ha g1 g2 g3 g4 g5
/-- The tokens from a place on. -/
inductive Toks (s : List UInt8) : Nat → List Tk → Prop
  | done : Toks s s.length []
  | more {t : Tk} {l : List Tk} : TokAt s t → Toks s t.m l → Toks s t.a (t :: l)
theorem Toks.le {s : List UInt8} {a : Nat} {l : List Tk} (h : Toks s a l) : a ≤ s.length := by
  cases h with
  | done => exact Nat.le_refl _
  | more h _ => have := h.1; have := h.2.1; omega
theorem Toks.len {s : List UInt8} {a : Nat} {l : List Tk} (h : Toks s a l) : l.length ≤ s.length - a := by
  induction h with
  | done => simp
  | more h _ ih => have h1 := h.1; have h2 := h.2.1; simp; omega
theorem tok_len {l : List Tk} : ∀ x ∈ l, x.cells.length = 4 := fun _ _ => rfl
theorem tok_flat (xs : List Tk) : (xs.flatMap Tk.cells).length = xs.length * 4 := by induction xs <;> simp_all [Tk.cells]; omega
theorem tok_one {xs : List Tk} : ∀ u ∈ xs.flatMap Tk.cells, u.oneCell' = true := by
  intro u hu
  simp [Tk.cells] at hu
  obtain ⟨a, _, rfl | rfl | rfl | rfl⟩ := hu <;> rfl
theorem info_tok : (Tryd.prog.info? 34).map (fun i => (i.zero, i.size, i.bytes)) = some (some (.agg #[.int .i64 0, .int .i64 0, .int .i64 0, .bool false]), 4, 32) := by kernel_rfl
theorem own_keeps_ge {F : Nat → Prop} {w w' : World} {b0 sz n : Nat} {v : Value} {xs : List Value} (h : Own w b0 sz v n xs) (hk : Keeps F w w') (hF : ∀ k, F k → k < b0) : Own w' b0 sz v n xs := by
  rcases h.2 with ⟨rfl, rfl | ⟨g, off, rfl, hg⟩⟩ | ⟨g, off, c, rfl, hg, _⟩
  · exact ⟨h.1, .inl ⟨rfl, .inl rfl⟩⟩
  · exact ⟨h.1, .inl ⟨rfl, .inr ⟨g, off, rfl, Nat.lt_of_lt_of_le hg hk.size⟩⟩⟩
  · refine h.keeps hk (fun k q1 _ q3 => ?_)
    simp only [Value.ownBlock, Option.map_some, Option.some.injEq] at q1
    have := hF k q3
    omega
theorem src_one3 (w : World) (o1 o2 : Obj) (cs : List Value) (t : TypeId) : Src (((w.alloc o1).alloc o2).alloc (.cells cs.toArray t)) (.slice (some ⟨w.heap.size + 1 + 1, 0, none⟩) 1 1) 1 cs := by
  have h := Src.one ((w.alloc o1).alloc o2) cs t 1
  rw [show ((w.alloc o1).alloc o2).heap.size = w.heap.size + 1 + 1 by simp] at h
  exact h
/-- What holds at each round of Lex's loop. -/
structure LexI (s : List UInt8) (w : World) (l : List Tk) (a : Nat) (pre post : List Tk) (v : Value) (W : World) : Prop where
  tk : Toks s a post
  eq : l = pre ++ post
  own : Own W (w.heap.size + 2) 4 v pre.length (pre.flatMap Tk.cells)
  bx : BoxN W (w.heap.size + 1) [.int .i64 0, .slice none 0 0, .bool false]
  rs : BoxN W w.heap.size [.int .i64 0, .slice none 0 0, .bool false]
  be : Below w.heap.size w W
def LexP (l : List Tk) (w : World) (e : Ending) (w' : World) : Prop := ∃ v, e = .returned (.tuple #[v, lex0]) ∧ Own w' w.heap.size 4 v l.length (l.flatMap Tk.cells) ∧ Below w.heap.size w w'
set_option maxHeartbeats 2000000 in
theorem lex_any (s : List UInt8) (l : List Tk) (ht : Toks s 0 l) (w : World) (hs : s.length ≤ 536870912) : Calls Tryd.prog 14 #[.string (B s)] w (LexP l w) := by
  obtain ⟨i1, hi1, hz10, hz11, hz12⟩ := info_parts info_tok
  go_enter Tryd.func14, Tryd.ntmps14
  go_wp2
  have HN := Lib.hid ht
  have hl := ht.len
  clear ht
  go_loopw [4, 6] (fun o i wr => ∃ (v : Value) (a : Nat) (pre post : List Tk), v = o ∧ i = .int .i64 a ∧ Hid (LexI s w l a pre post v wr)) (fun _ i _ => s.length - (intOf i).toNat)
  case atStart =>
    refine ⟨_, 0, [], l, rfl, rfl, HN.out, rfl, Own.nil _ _ _, ?_, ?_, ?_⟩
    · have h := BoxN.new (w.alloc (.cells #[.int .i64 0, .slice none 0 0, .bool false] 30)) [.int .i64 0, .slice none 0 0, .bool false] 30
      rw [show (w.alloc (.cells #[.int .i64 0, .slice none 0 0, .bool false] 30)).heap.size = w.heap.size + 1 by simp] at h
      exact h
    · exact (BoxN.new w [.int .i64 0, .slice none 0 0, .bool false] 30).below (below_alloc (Below.refl _ _) _)
    · exact below_alloc (below_alloc (Below.refl _ _) _) _
  case round =>
    obtain ⟨v, a, pre, post, rfl, rfl, HI⟩ := hrel
    have hbx := box3 HI.out.bx
    obtain ⟨⟨c0, c1, c2⟩, f0, f1, f2⟩ := hbx
    have hxl := HI.out.bx.lt
    have hle := HI.out.tk.le
    haveI : Old wr (w.heap.size + 1) := ⟨hxl⟩
    haveI : Old wr w.heap.size := ⟨by omega⟩
    have hpl : pre.length + post.length = l.length := by rw [HI.out.eq, List.length_append]
    cases post with
    | nil =>
      have hp : a = s.length := by
        have := HI.out.tk
        cases this; rfl
      subst hp
      have k1 : ¬ (s.length : Int) < (s.length : Int) := by omega
      have k2 : (0 : Int) ≤ (s.length : Int) := by omega
      obtain ⟨⟨q0, q1, q2⟩, p0, p1, p2⟩ := box3 HI.out.rs
      have hpl2 : pre = l := by rw [HI.out.eq, List.append_nil]
      go_wp2
      (refine wp_region_grow_tail 3 (by kernel_rfl) (by kernel_rfl) ?_; simp only [List.take_succ_cons, List.take_zero, List.drop_succ_cons, List.drop_zero]; (repeat (go_big_quiet_step (fail))); refine wpQuiet_nil ?_; intro _ hw'; obtain ⟨gq, hw''⟩ := hw'; subst hw'')
      go_wp2
      have hk := keeps_set3 wr w.heap.size (.int .i64 0) (.slice none 0 0) (.bool false)
      have hrs := box_set3 HI.out.rs (.int .i64 0) (.slice none 0 0) (.bool false)
      have hown := own_keeps_ge HI.out.own hk (fun k q => by omega)
      have hbe := below_keeps HI.out.be hk (fun k e => by omega)
      generalize growSet _ _ _ = G
      generalize World.setCell (World.setCell (World.setCell wr _ _) _ _) _ _ = D at *
      obtain ⟨⟨r0, r1, r2⟩, -⟩ := box3 (hrs.below (grow_below D G))
      refine bodyPost_ret (v := .tuple #[v, lex0]) (by simp [results, Tryd.results14, go_sem, lex0, r0, r1, r2]) rfl ?_
      exact ⟨v, rfl, by rw [← hpl2]; exact (hown.below (grow_below D G)).mono (by omega), below_then hbe (grow_below D G)⟩
    | cons t post =>
      obtain ⟨htk, hts, hta⟩ : TokAt s t ∧ Toks s t.m post ∧ a = t.a := by
        have := HI.out.tk
        cases this
        exact ⟨by assumption, by assumption, rfl⟩
      subst hta
      have hta := htk.1
      have htm := htk.2.1
      have k1 : (t.a : Int) < (s.length : Int) := by omega
      have k2 : (0 : Int) ≤ (t.a : Int) := by omega
      have HTK := Lib.hid htk
      have HTS := Lib.hid hts
      clear htk hts
      have hown0 := HI.out.own
      have hnlt : ∀ k, v.ownBlock = some k → k < wr.heap.size := hown0.lt
      have hn2 : pre.length + 1 ≤ 1099511627776 := by simp at hpl; omega
      go_wp2_with (first
        | (go_at_call 29; refine (step_tok HTK.out hs _).mono ?_; rintro e w1 ⟨rfl, hb1⟩; dsimp only [tokV, lex0]; have HB1 := Lib.hid hb1; have hsz1 := hb1.size; have hbx1 := HI.out.bx.below hb1; obtain ⟨⟨d0, d1, d2⟩, g0, g1, g2⟩ := box3 hbx1; haveI : Old w1 (w.heap.size + 1) := ⟨hbx1.lt⟩; have HBX1 := Lib.hid hbx1; have hown1 := hown0.below hb1; clear hb1 hbx1)
        | ((at_builtin; refine wpList_append_src _ rfl (.tmp 21) (.tmp 23) _ rfl (w.heap.size + 2) 34 i1 _ 4 32 Tryd.underlying27 hi1 hz10 hz11 hz12 rfl (by decide) _ pre.length (pre.flatMap Tk.cells) rfl (hown1.below (by (repeat (first | exact Below.refl _ _ | assumption | with_reducible refine below_alloc ?_ _ | with_reducible refine below_grow ?_ _ | with_reducible refine below_drewN ?_ _ | with_reducible refine below_drew ?_ | with_reducible refine below_setCell ?_ (by first | (dsimp only; omega) | (simp; done) | (simp; omega)) _)))) _ 1 t.cells rfl rfl (src_one3 w1 _ _ _ _) (by simp [Tk.cells, Value.oneCell']) (by unfold maxLen; omega) (by omega) (by first | (simp; done) | omega | (simp; omega)) ?_; intro v2 w2 hown2 hg2 hat2 hty2; have HTY2 := Lib.hid hty2; clear hty2)
           have B7 := ((BoxN.new w1 [.int .i64 t.kind, .int .i64 t.a, .int .i64 t.m, .bool t.o] 34).below (below_alloc (below_alloc (Below.refl _ _) (.cells #[.int .i64 0, .slice none 0 0, .bool false] 30)) (.cells #[.int .i64 t.kind, .int .i64 t.a, .int .i64 t.m, .bool t.o] 34))).keeps hg2 (fun q => by have := hnlt _ q.1; omega)
           have B8 := (BoxN.new (w1.alloc (.cells #[.int .i64 t.kind, .int .i64 t.a, .int .i64 t.m, .bool t.o] 34)) [.int .i64 0, .slice none 0 0, .bool false] 30).below (below_alloc (Below.refl _ _) (.cells #[.int .i64 t.kind, .int .i64 t.a, .int .i64 t.m, .bool t.o] 34))
           rw [show (w1.alloc (.cells #[.int .i64 t.kind, .int .i64 t.a, .int .i64 t.m, .bool t.o] 34)).heap.size = w1.heap.size + 1 by simp] at B8
           have B8 := B8.keeps hg2 (fun q => by have := hnlt _ q.1; omega)
           have hG2 := (Keeps.of_below (F := fun k => v.ownBlock = some k ∧ w.heap.size + 2 ≤ k) (below_alloc (below_alloc (below_alloc (Below.refl w1.heap.size w1) _) _) _)).trans hg2
           have BX2 := HBX1.out.keeps hG2 (fun q => by have := q.2; omega)
           obtain ⟨⟨a0, a1, a2, a3⟩, -⟩ := box4 B7
           obtain ⟨⟨b0, b1, b2⟩, -⟩ := box3 B8
           obtain ⟨⟨e0, e1, e2⟩, h0, h1, h2⟩ := box3 BX2
           have HO2 := Lib.hid hown2
           have HG2 := Lib.hid hG2
           have HX2 := Lib.hid BX2
           clear B7 B8 BX2 hg2 hG2 hown2 hat2 d0 d1 d2 g0 g1 g2 c0 c1 c2 f0 f1 f2))
      go_roundw
      case rel =>
        have hk2 := keeps_set3 w2 (w.heap.size + 1) (.int .i64 0) (.slice none 0 0) (.bool false)
        refine ⟨v2, t.m, pre ++ [t], post, rfl, rfl, HTS.out, ?_, ?_, ?_, ?_, ?_⟩
        · rw [HI.out.eq, List.append_assoc]; rfl
        · have h := own_keeps_ge HO2.out hk2 (fun k q => by omega)
          rw [show (pre ++ [t]).length = pre.length + 1 by simp, show (pre ++ [t]).flatMap Tk.cells = pre.flatMap Tk.cells ++ t.cells by simp]
          exact h
        · exact box_set3 HX2.out _ _ _
        · exact ((HI.out.rs.below HB1.out).keeps HG2.out (fun q => by have := q.2; omega)).keeps hk2 (by omega)
        · exact below_keeps (below_keeps (below_then HI.out.be HB1.out) HG2.out (fun k e => by have := e.2; omega)) hk2 (fun k e => by omega)
      case measure => simp [intOf]; omega
end Go.Proofs.YtadlaaddpobhbaaDoor.Lx
