/-
  The walks of layer 2 (undo): a ring in memory; Top, Kill. Conditions: at most 20 texts, of at most 2^40 bytes each.
-/
import Derived.Test.YtkinjjgaecbogaaUndo7
import Derived.Test.YtkinjjgaecbogaaStr
namespace Go.Proofs.Ytkinjjgaecbogaa
open Go.ChangeShapes Go.WideShapes Go.Deep Go.RowKit
set_option maxRecDepth 100000
/-- A ring in memory: its texts, the top one last. -/
structure RAt (w : World) (b0 rb : Nat) (lv : Value) (ts : List (List UInt8)) : Prop where
  ge : b0 ≤ rb
  lt : rb < w.heap.size
  c0 : w.cell? ⟨rb, 0, none⟩ = some lv
  f0 : w.frozen? ⟨rb, 0, none⟩ = false
  own : Own w b0 1 lv ts.length (ts.flatMap strC)
  ne : lv.ownBlock ≠ some rb
theorem RAt.below {w w' : World} {b0 rb : Nat} {lv : Value} {ts : List (List UInt8)} (h : RAt w b0 rb lv ts) (hb : Below w.heap.size w w') : RAt w' b0 rb lv ts := by
  have e := hb.block rb h.lt
  exact ⟨h.ge, Nat.lt_of_lt_of_le h.lt hb.size, (World.cell?_of_block (w := w) e).trans h.c0, (World.frozen?_of_block (w := w) e).trans h.f0, h.own.below hb, h.ne⟩
theorem Own.setS {w : World} {b0 g off n c k : Nat} {ys : List (List UInt8)} {y : List UInt8} (h : Own w b0 1 (.slice (some ⟨g, off, none⟩) n c) n (ys.flatMap strC)) (hk : k < n) :
    Own (w.setCell ⟨g, off + k, none⟩ (.string (B y))) b0 1 (.slice (some ⟨g, off, none⟩) n c) n ((ys.set k y).flatMap strC) := by
  have hl := h.1
  rw [strC_flat, Nat.mul_one] at hl
  refine ⟨by rw [strC_flat, Nat.mul_one, List.length_set]; exact hl, ?_⟩
  rcases h.2 with ⟨h0, _⟩ | ⟨g', off', c', e, h1, h2, h3, h4, h5, h6⟩
  · omega
  · simp only [Value.slice.injEq, Option.some.injEq, Addr.mk.injEq, and_true, true_and] at e
    obtain ⟨⟨rfl, rfl⟩, rfl⟩ := e
    refine .inr ⟨g, off, c, rfl, h1, by simpa [World.setCell] using h2, h3, h4, fun j hj => ⟨?_, ?_⟩, fun j u hj => ?_⟩
    · by_cases hjk : j = k
      · subst hjk
        rw [World.cell?_setCell_same' _ _ _ (h5 j hj).1]; rfl
      · rw [World.cell?_setCell_other _ _ _ _ (by first | (simp; done) | (simp; omega))]; exact (h5 j hj).1
    · rw [World.frozen?_setCell]; exact (h5 j hj).2
    · rw [flat_get, List.getElem?_set] at hj
      by_cases hjk : k = j
      · subst hjk
        rw [if_pos rfl, if_pos (by omega)] at hj
        simp at hj
        subst hj
        exact World.cell?_setCell_same' _ _ _ (h5 k (by omega)).1
      · rw [if_neg hjk] at hj
        rw [World.cell?_setCell_other _ _ _ _ (by first | (simp; done) | (simp; omega))]
        exact h6 j u (by rw [flat_get]; exact hj)
theorem set_last {α : Type} (xs : List α) (t y : α) : (xs ++ [t]).set xs.length y = xs ++ [y] := by simp
theorem top_none (w : World) (b0 rb : Nat) (lv : Value) (h : RAt w b0 rb lv []) : Calls Try.prog 63 #[.pointer (some ⟨rb, 0, none⟩)] w fun e w' => e = .returned (.tuple #[.string (B []), .bool false]) ∧ Below w.heap.size w w' := by
  have c0 := h.c0
  haveI : Old w rb := ⟨h.lt⟩
  obtain ⟨A, c, rfl, _⟩ := h.own.form0
  clear h
  go_enter Try.func63, Try.ntmps63
  go_wp2
  go_ret2
  exact ⟨rfl, by (repeat (first | exact Below.refl _ _ | assumption | with_reducible refine below_alloc ?_ _ | with_reducible refine below_grow ?_ _ | with_reducible refine below_drewN ?_ _ | with_reducible refine below_drew ?_ | with_reducible refine below_setCell ?_ (by first | (dsimp only; omega) | (simp; done) | (simp; omega)) _))⟩
theorem top_some (w : World) (b0 rb : Nat) (lv : Value) (init : List (List UInt8)) (t : List UInt8) (h : RAt w b0 rb lv (init ++ [t])) (hl : init.length ≤ 1099511627776) : Calls Try.prog 63 #[.pointer (some ⟨rb, 0, none⟩)] w fun e w' => e = .returned (.tuple #[.string (B t), .bool true]) ∧ Below w.heap.size w w' := by
  have c0 := h.c0
  haveI : Old w rb := ⟨h.lt⟩
  have hlen : (init ++ [t]).length = init.length + 1 := by simp
  have ho := h.own
  rw [hlen] at ho
  obtain ⟨g, off, c, rfl, _, hg, hc1, hc2⟩ := ho.form
  obtain ⟨y, hy, hyc, hyf⟩ := ho.cellOk init.length (by omega)
  have hyt : y = t := by simpa using hy.symm
  subst hyt
  haveI : Old w g := ⟨hg⟩
  have hk0 : (0 : Int) ≤ (init.length : Int) := by omega
  clear h ho hy hlen
  go_enter Try.func63, Try.ntmps63
  go_wp2
  (refine wp_region_grow (by kernel_rfl) (by kernel_rfl) ?_; (repeat (go_big_quiet_step (fail))); refine wpQuiet_nil ?_; intro _ hw'; obtain ⟨gq, hw''⟩ := hw'; subst hw'')
  go_wp2
  go_ret2
  exact ⟨rfl, by (repeat (first | exact Below.refl _ _ | assumption | with_reducible refine below_alloc ?_ _ | with_reducible refine below_grow ?_ _ | with_reducible refine below_drewN ?_ _ | with_reducible refine below_drew ?_ | with_reducible refine below_setCell ?_ (by first | (dsimp only; omega) | (simp; done) | (simp; omega)) _))⟩
structure KillP (b0 rb : Nat) (lv : Value) (ts : List (List UInt8)) (w : World) (e : Ending) (w' : World) : Prop where
  e : e = .returned (.tuple #[])
  j : ∃ v', RAt w' b0 rb v' ts ∧ Keeps (fun k => k = rb ∨ (lv.ownBlock = some k ∧ b0 ≤ k)) w w' ∧ (v'.ownBlock = lv.ownBlock ∨ ∀ k, v'.ownBlock = some k → w.heap.size ≤ k)
theorem kill_nil (w : World) (b0 rb : Nat) (lv : Value) (ts : List (List UInt8)) (more : Int) (h : RAt w b0 rb lv ts) : Calls Try.prog 61 #[.pointer (some ⟨rb, 0, none⟩), .string (B []), .int .i64 more] w (KillP b0 rb lv ts w) := by
  have c0 := h.c0
  haveI : Old w rb := ⟨h.lt⟩
  have H := Lib.hid h
  obtain ⟨A, c, rfl, _⟩ := h.own.form0
  clear h
  go_enter Try.func61, Try.ntmps61
  go_wp2
  go_end0
  exact ⟨rfl, _, H.out, Keeps.refl _ _, .inl rfl⟩
set_option maxHeartbeats 800000 in
theorem kill_plus (w : World) (b0 rb : Nat) (lv : Value) (init : List (List UInt8)) (t s : List UInt8) (more : Int) (h : RAt w b0 rb lv (init ++ [t])) (hs : s ≠ []) (hm : 0 < more) (hl : init.length ≤ 20) (ht : t.length ≤ 1099511627776) (hs2 : s.length ≤ 1099511627776) :
    Calls Try.prog 61 #[.pointer (some ⟨rb, 0, none⟩), .string (B s), .int .i64 more] w (KillP b0 rb lv (init ++ [t ++ s]) w) := by
  have c0 := h.c0
  haveI : Old w rb := ⟨h.lt⟩
  have H := Lib.hid h
  have hlen : (init ++ [t]).length = init.length + 1 := by simp
  have ho := h.own
  rw [hlen] at ho
  obtain ⟨g, off, c, rfl, hgb, hg, hc1, hc2⟩ := ho.form
  obtain ⟨y, hy, hyc, hyf⟩ := ho.cellOk init.length (by omega)
  have hyt : y = t := by simpa using hy.symm
  subst hyt
  have HO := Lib.hid (ho.setS (y := y ++ s) (k := init.length) (by omega))
  haveI : Old w g := ⟨hg⟩
  have hk0 : (0 : Int) ≤ (init.length : Int) := by omega
  have hgr : g ≠ rb := fun e => h.ne (by rw [← e]; rfl)
  have hs1 : (s == []) = false := by simpa using hs
  have hs3 : s.isEmpty = false := by simpa using hs
  have HSN := Lib.hid hs
  clear h ho hy hs
  go_enter Try.func61, Try.ntmps61
  go_wp2
  go_end0
  rw [set_last] at HO
  refine ⟨rfl, _, ⟨H.out.ge, by simpa [World.setCell] using H.out.lt, (World.cell?_setCell_other _ _ _ _ (by first | (simp; done) | (simp; omega))).trans c0, (World.frozen?_setCell _ _ _ _).trans H.out.f0, ?_, H.out.ne⟩, Keeps.setCell (F := fun k => k = rb ∨ ((Value.slice (some ⟨g, off, none⟩) (init.length + 1) c).ownBlock = some k ∧ b0 ≤ k)) w (a := ⟨g, off + init.length, none⟩) (.inr ⟨rfl, hgb⟩) _, .inl rfl⟩
  rw [show (init ++ [y ++ s]).length = init.length + 1 by simp]
  exact HO.out
end Go.Proofs.Ytkinjjgaecbogaa
