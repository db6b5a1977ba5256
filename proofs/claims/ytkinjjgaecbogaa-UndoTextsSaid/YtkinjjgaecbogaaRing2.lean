/-
  The walks of layer 2 (undo), on: a ring's Kill ahead of the top, and of a new text. Conditions: at most 20 texts, of at most 2^40 bytes each.
-/
import Derived.Test.YtkinjjgaecbogaaRing
import Derived.Test.YtkinjjgaecbogaaFields3
namespace Go.Proofs.Ytkinjjgaecbogaa
open Go.ChangeShapes Go.WideShapes Go.Deep Go.RowKit
set_option maxRecDepth 100000
set_option maxHeartbeats 800000 in
theorem kill_minus (w : World) (b0 rb : Nat) (lv : Value) (init : List (List UInt8)) (t s : List UInt8) (more : Int) (h : RAt w b0 rb lv (init ++ [t])) (hs : s ≠ []) (hm : more < 0) (hl : init.length ≤ 20) (ht : t.length ≤ 1099511627776) (hs2 : s.length ≤ 1099511627776) :
    Calls Try.prog 61 #[.pointer (some ⟨rb, 0, none⟩), .string (B s), .int .i64 more] w (KillP b0 rb lv (init ++ [s ++ t]) w) := by
  have c0 := h.c0
  haveI : Old w rb := ⟨h.lt⟩
  have H := Lib.hid h
  have hlen : (init ++ [t]).length = init.length + 1 := by simp
  have ho := h.own
  rw [hlen] at ho
  obtain ⟨g, off, c, rfl, hgb, hg, hc1, hc2⟩ := ho.form
  obtain ⟨y, hy, hyc, hyf⟩ := ho.cellOk init.length (by omega)
  have hyt : y = t := by simpa using hy.symm
  subst hyt
  have HO := Lib.hid (ho.setS (y := s ++ y) (k := init.length) (by omega))
  haveI : Old w g := ⟨hg⟩
  have hk0 : (0 : Int) ≤ (init.length : Int) := by omega
  have hgr : g ≠ rb := fun e => h.ne (by rw [← e]; rfl)
  have hs1 : (s == []) = false := by simpa using hs
  have hs3 : s.isEmpty = false := by simpa using hs
  have hm1 := no (show ¬ (0 : Int) < more by omega)
  clear h ho hy hs
  go_enter Try.func61, Try.ntmps61
  go_wp2
  (refine wp_region_grow_tail 16 (by kernel_rfl) (by kernel_rfl) ?_; simp only [List.take_succ_cons, List.take_zero, List.drop_succ_cons, List.drop_zero]; (repeat (go_big_quiet_step (fail))); refine wpQuiet_nil ?_; intro _ hw'; obtain ⟨gq, hw''⟩ := hw'; subst hw'')
  go_wp2
  go_end0
  rw [set_last] at HO
  have hr : RAt (w.setCell ⟨g, off + init.length, none⟩ (.string (B (s ++ y)))) b0 rb (.slice (some ⟨g, off, none⟩) (init.length + 1) c) (init ++ [s ++ y]) :=
    ⟨H.out.ge, by simpa [World.setCell] using H.out.lt, (World.cell?_setCell_other _ _ _ _ (by first | (simp; done) | (simp; omega))).trans c0, (World.frozen?_setCell _ _ _ _).trans H.out.f0, (by rw [show (init ++ [s ++ y]).length = init.length + 1 by simp]; exact HO.out), H.out.ne⟩
  have hk : Keeps (fun k => k = rb ∨ ((Value.slice (some ⟨g, off, none⟩) (init.length + 1) c).ownBlock = some k ∧ b0 ≤ k)) w (w.setCell ⟨g, off + init.length, none⟩ (.string (B (s ++ y)))) := Keeps.setCell (a := ⟨g, off + init.length, none⟩) w (.inr ⟨rfl, hgb⟩) _
  exact ⟨rfl, _, hr.below (grow_below _ _), hk.trans (Keeps.of_below (grow_below _ _)), .inl rfl⟩
theorem own_snocT {w : World} {b0 : Nat} {v : Value} {l : List (List UInt8)} {x : List UInt8} (h : Own w b0 1 v (l.length + 1) (l.flatMap strC ++ [.string (B x)])) : Own w b0 1 v (l ++ [x]).length ((l ++ [x]).flatMap strC) := by
  rw [List.length_append, List.flatMap_append]
  simpa [strC] using h
/-- An own row without its first elements. -/
theorem Own.tail {w : World} {b0 g off c d k : Nat} {l : List (List UInt8)} (h : Own w b0 1 (.slice (some ⟨g, off, none⟩) l.length c) l.length (l.flatMap strC)) (hd : l.length = d + k) : Own w b0 1 (.slice (some ⟨g, off + d, none⟩) k (c - d)) k ((l.drop d).flatMap strC) := by
  refine ⟨by rw [strC_flat, List.length_drop]; omega, ?_⟩
  rcases h.2 with ⟨h0, e | ⟨g', off', e, hg⟩⟩ | ⟨g', off', c', e, h1, h2, h3, h4, h5, h6⟩
  · cases e
  · injection e with e1 e2 e3
    injection e1 with e1
    cases e1
    subst e3
    exact .inl ⟨by omega, .inr ⟨g, off + d, by rw [show k = 0 by omega, Nat.zero_sub], hg⟩⟩
  · injection e with e1 e2 e3
    injection e1 with e1
    cases e1
    subst e3
    refine .inr ⟨g, off + d, c - d, rfl, h1, h2, by omega, by omega, fun j hj => ?_, fun j u hj => ?_⟩
    · rw [Nat.add_assoc]; exact h5 (d + j) (by omega)
    · rw [flat_get, List.getElem?_drop] at hj
      rw [Nat.add_assoc]
      exact h6 (d + j) u (by rw [flat_get]; exact hj)
theorem RAt.app {w w1 : World} {b0 rb : Nat} {lv v1 : Value} {ts : List (List UInt8)} (h : RAt w b0 rb lv ts) (hk : Keeps (fun k => lv.ownBlock = some k ∧ b0 ≤ k) w w1) (hat : v1.ownBlock = lv.ownBlock ∨ ∀ k, v1.ownBlock = some k → w.heap.size ≤ k) :
    rb < w1.heap.size ∧ w1.cell? ⟨rb, 0, none⟩ = some lv ∧ w1.frozen? ⟨rb, 0, none⟩ = false ∧ v1.ownBlock ≠ some rb := by
  have e := hk.block rb h.lt (fun hf => h.ne hf.1)
  refine ⟨Nat.lt_of_lt_of_le h.lt hk.size, (World.cell?_of_block (w := w) e).trans h.c0, (World.frozen?_of_block (w := w) e).trans h.f0, fun e2 => ?_⟩
  rcases hat with e1 | e1
  · exact h.ne (e1 ▸ e2)
  · have := e1 _ e2; have := h.lt; omega
def capL (l : List (List UInt8)) : List (List UInt8) := l.drop (l.length - 20)
set_option maxHeartbeats 1600000 in
theorem kill_add (w : World) (b0 rb : Nat) (lv : Value) (ts : List (List UInt8)) (s : List UInt8) (more : Int) (h : RAt w b0 rb lv ts) (hs : s ≠ []) (hm : ts = [] ∨ more = 0) (hl : ts.length ≤ 20) :
    Calls Try.prog 61 #[.pointer (some ⟨rb, 0, none⟩), .string (B s), .int .i64 more] w (KillP b0 rb lv (capL (ts ++ [s])) w) := by
  obtain ⟨i0, hi0, hz00, hz01, hz02⟩ := info_parts info_str
  have c0 := h.c0
  haveI : Old w rb := ⟨h.lt⟩
  have H := Lib.hid h
  have hbw : b0 ≤ w.heap.size := Nat.le_of_lt (Nat.lt_of_le_of_lt h.ge h.lt)
  have f0 := h.f0
  obtain ⟨A, c, rfl, _⟩ := h.own.form0
  have hs1 : (s == []) = false := by simpa using hs
  have hs3 : s.isEmpty = false := by simpa using hs
  have hm1 : decide (0 < ts.length) = false ∨ (more = 0) := by
    rcases hm with rfl | h
    · exact .inl rfl
    · exact .inr h
  clear h hs hm
  rcases hm1 with hm1 | rfl
  all_goals
    go_enter Try.func61, Try.ntmps61
    go_wp2_with ((at_builtin; refine wpList_append_src _ rfl (.tmp 16) (.tmp 18) _ rfl b0 9 i0 _ 1 16 Try.underlying22 hi0 hz00 hz01 hz02 rfl (by decide) _ ts.length (ts.flatMap strC) rfl (H.out.own.below (below_alloc (Below.refl _ _) _)) _ 1 [.string (B s)] rfl rfl (src_one _ _ _ _ _ (by first | rfl | (simp; done) | omega)) (by simp [Value.oneCell']) (by unfold maxLen; omega) (by omega) (by first | (simp; done) | omega | (simp; omega)) ?_; intro v1 w1 hown1 hg1 hat1 hty1; have HTY1 := Lib.hid hty1; clear hty1); obtain ⟨l1, d1, f1, n1⟩ := (H.out.below (below_alloc (Below.refl _ _) _)).app hg1 hat1; haveI : Old w1 rb := ⟨l1⟩; have HO1 := Lib.hid (own_snocT hown1); obtain ⟨g1, o1, c1', rfl, q1, q2, q3, q4⟩ := hown1.form; have HG1 := Lib.hid hg1; have HAT1 := Lib.hid hat1; have HNE1 := Lib.hid n1; clear hown1 hg1 hat1 n1)
  all_goals
    have hk2 := Keeps.setCell (F := fun k => k = rb) w1 (a := ⟨rb, 0, none⟩) rfl (.slice (some ⟨g1, o1, none⟩) (ts.length + 1) c1')
    have HR : Hid (RAt (w1.setCell ⟨rb, 0, none⟩ (.slice (some ⟨g1, o1, none⟩) (ts.length + 1) c1')) b0 rb (.slice (some ⟨g1, o1, none⟩) (ts.length + 1) c1') (ts ++ [s])) :=
      ⟨H.out.ge, by simpa [World.setCell] using l1, World.cell?_setCell_same' _ _ _ (by rw [d1]; rfl), (World.frozen?_setCell _ _ _ _).trans f1, HO1.out.keeps hk2 (fun k e _ hf => HNE1.out (by rw [e, hf])), HNE1.out⟩
    have HK2 : Hid (Keeps (fun k => k = rb ∨ ((Value.slice A ts.length c).ownBlock = some k ∧ b0 ≤ k)) w (w1.setCell ⟨rb, 0, none⟩ (.slice (some ⟨g1, o1, none⟩) (ts.length + 1) c1'))) :=
      ((Keeps.of_below (F := fun k => k = rb ∨ ((Value.slice A ts.length c).ownBlock = some k ∧ b0 ≤ k)) (below_alloc (Below.refl _ _) (.cells #[.string (B s)] 9))).step HG1.out (fun j _ hf => .inr hf)).step hk2 (fun j _ hf => .inl hf)
    have HAT : Hid ((Value.slice (some ⟨g1, o1, none⟩) (ts.length + 1) c1').ownBlock = (Value.slice A ts.length c).ownBlock ∨ ∀ k, (Value.slice (some ⟨g1, o1, none⟩) (ts.length + 1) c1').ownBlock = some k → w.heap.size ≤ k) := HAT1.out.imp id (fun h k e => Nat.le_trans (by simp) (h k e))
    clear hk2 c0 f0 d1 f1 HO1 HG1 HAT1 l1
    generalize w1.setCell ⟨rb, 0, none⟩ (.slice (some ⟨g1, o1, none⟩) (ts.length + 1) c1') = W2 at *
    have d0 := HR.out.c0
    have df := HR.out.f0
    haveI : Old W2 rb := ⟨HR.out.lt⟩
    obtain ⟨d, m, hd, hm3, hmax⟩ : ∃ d m : Nat, ts.length + 1 = d + m ∧ 0 < m ∧ max ((ts.length : Int) + 1 - 20) 0 = (d : Int) ∧ d = ts.length + 1 - 20 := by
      rcases Nat.lt_or_ge ts.length 20 with h | h
      · exact ⟨0, ts.length + 1, by omega, by omega, by omega, by omega⟩
      · exact ⟨1, 20, by omega, by omega, by omega, by omega⟩
    obtain ⟨hmax, hdd⟩ := hmax
    have hwd : IntKind.i64.wrap (d : Int) = (d : Int) := IntWalk.i64_in _ (by omega)
    have hw0 : IntKind.i64.wrap ((ts.length : Int) + 1 - 20) = (ts.length : Int) + 1 - 20 := IntWalk.i64_in _ (by omega)
    have hdc : (d : Int) ≤ (c1' : Int) := by omega
    have hne : ¬ c1' = d := by omega
    have HC := Lib.hid (show capL (ts ++ [s]) = (ts ++ [s]).drop d by unfold capL; rw [show (ts ++ [s]).length - 20 = d by rw [List.length_append, List.length_singleton]; omega])
    clear hdd
    have hmax2 : max ((d : Int) + (m : Int) - 20) 0 = (d : Int) := by omega
    (refine wp_region_grow_tail 13 (by kernel_rfl) (by kernel_rfl) ?_; simp only [List.take_succ_cons, List.take_zero, List.drop_succ_cons, List.drop_zero]; (repeat (go_big_quiet_step (fail))); refine wpQuiet_nil ?_; intro _ hw'; obtain ⟨gq, hw''⟩ := hw'; subst hw'')
    go_wp2
    (try simp only [hmax2, Int.toNat_natCast, Nat.add_sub_cancel_left])
    go_end0
    have hln : (ts ++ [s]).length = ts.length + 1 := by simp
    have ho : Own W2 b0 1 (.slice (some ⟨g1, o1, none⟩) (ts ++ [s]).length c1') (ts ++ [s]).length ((ts ++ [s]).flatMap strC) := by have := HR.out.own; rw [hln] at this ⊢; exact this
    have ho2 := ho.tail (d := d) (k := m) (by rw [hln]; exact hd)
    have hk3 := Keeps.setCell (F := fun k => k = rb) W2 (a := ⟨rb, 0, none⟩) rfl (.slice (some ⟨g1, o1 + d, none⟩) m (c1' - d))
    have hr : RAt (W2.setCell ⟨rb, 0, none⟩ (.slice (some ⟨g1, o1 + d, none⟩) m (c1' - d))) b0 rb (.slice (some ⟨g1, o1 + d, none⟩) m (c1' - d)) (capL (ts ++ [s])) := by
      refine ⟨HR.out.ge, by simpa [World.setCell] using HR.out.lt, World.cell?_setCell_same' _ _ _ (by rw [d0]; rfl), (World.frozen?_setCell _ _ _ _).trans df, ?_, HNE1.out⟩
      have hl2 : (capL (ts ++ [s])).length = m := by rw [HC.out, List.length_drop, hln]; omega
      rw [hl2, HC.out]
      exact ho2.keeps hk3 (fun k e _ hf => HNE1.out (by rw [← hf]; exact e))
    exact ⟨rfl, _, hr.below (grow_below _ _), (HK2.out.step hk3 (fun j _ hf => .inl hf)).trans (Keeps.of_below (grow_below _ _)), HAT.out⟩
end Go.Proofs.Ytkinjjgaecbogaa
