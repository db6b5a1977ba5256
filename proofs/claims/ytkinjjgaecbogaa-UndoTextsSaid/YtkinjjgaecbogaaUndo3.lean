/-
  The walks of layer 2 (undo), on: slices.Clone of steps; Push without a join. Conditions: at most 2^30 steps.
-/
import Derived.Test.YtkinjjgaecbogaaUndo2
import Derived.Test.YtkinjjgaecbogaaFields3
namespace Go.Proofs.Ytkinjjgaecbogaa
open Go.ChangeShapes Go.WideShapes Go.Deep Go.RowKit
set_option maxRecDepth 100000
def CloneSPost (xs : List Stp) (w : World) (e : Ending) (w' : World) : Prop := ∃ v, e = .returned v ∧ Own w' w.heap.size 5 v xs.length (xs.flatMap Stp.cells) ∧ Below w.heap.size w w'
theorem clone_stp (xs : List Stp) (v : Value) (w : World) (h : Sl w Stp.cells 5 v xs) (hl : xs.length ≤ 1099511627776) :
    Calls Try.prog 84 #[v] w (CloneSPost xs w) := by
  obtain ⟨i5, hi5, hz50, hz51, hz52⟩ := info_parts info_stp
  have hs := h.src stp_len
  obtain ⟨A, c, rfl, hc1, hc2, hn, hA⟩ := h
  cases A with
  | none =>
    have h0 := hn rfl
    have h1 : xs.length = 0 := by omega
    obtain rfl := List.eq_nil_of_length_eq_zero h1
    subst h0
    have hnil := @Lib.run_eql_slice_nil Try.prog
    go_enter Try.func84, Try.ntmps84
    go_wp2
    go_ret
    exact ⟨_, rfl, Own.nil _ _ _, Below.refl _ _⟩
  | some a =>
    have Hs := Lib.hid hs
    clear hs hn hA
    have hnil := fun w => Lib.run_eql_slice_nil (P := Try.prog) w 87 89 (some a) xs.length c 0 0 Try.underlying87
    go_enter Try.func84, Try.ntmps84
    go_wp2_with (at_builtin; refine wpList_append_src _ rfl (.tmp 5) (.tmp 6) _ rfl w.heap.size 89 i5 _ 5 56 Try.underlying87 hi5 hz50 hz51 hz52 rfl (by decide) _ 0 [] rfl (Own.none_ _ _ _ _ _ (by simp)) _ xs.length (xs.flatMap Stp.cells) rfl (by rw [stp_flat]) (Hs.out.below (by (repeat (first | exact Below.refl _ _ | assumption | with_reducible refine below_alloc ?_ _ | with_reducible refine below_grow ?_ _ | with_reducible refine below_drewN ?_ _ | with_reducible refine below_drew ?_ | with_reducible refine below_setCell ?_ (by first | (dsimp only; omega) | (simp; done) | (simp; omega)) _)))) stp_one (by unfold maxLen; omega) (by omega) (by first | (simp; done) | omega | (simp; omega)) ?_; intro v1 w1 hown1 hg1 hat1 hty1; have HTY1 := Lib.hid hty1; clear hty1)
    go_ret
    exact ⟨v1, rfl, by simpa using hown1, below_keeps (by (repeat (first | exact Below.refl _ _ | assumption | with_reducible refine below_alloc ?_ _ | with_reducible refine below_grow ?_ _ | with_reducible refine below_drewN ?_ _ | with_reducible refine below_drew ?_ | with_reducible refine below_setCell ?_ (by first | (dsimp only; omega) | (simp; done) | (simp; omega)) _))) hg1 (fun k hk => hk.2)⟩
/-- The first steps of an own row, no more to be written behind. -/
theorem Own.cut {w : World} {b0 sz n c k : Nat} {A : Option Addr} {xs : List Value} (h : Own w b0 sz (.slice A n c) n xs) (hk : k ≤ n) : Own w b0 sz (.slice A k k) k (xs.take (k * sz)) := by
  have hl := h.1
  refine ⟨by rw [List.length_take, hl]; exact Nat.min_eq_left (Nat.mul_le_mul_right _ hk), ?_⟩
  rcases h.2 with ⟨h0, e | ⟨g, off, e, hg⟩⟩ | ⟨g, off, c', e, h1, h2, h3, h4, h5, h6⟩
  · injection e with e _ _
    subst e
    exact .inl ⟨by omega, .inl (by rw [show k = 0 by omega])⟩
  · injection e with e _ _
    subst e
    exact .inl ⟨by omega, .inr ⟨g, off, by rw [show k = 0 by omega], hg⟩⟩
  · injection e with e _ e3
    subst e e3
    rcases Nat.eq_zero_or_pos k with rfl | hk0
    · exact .inl ⟨rfl, .inr ⟨g, off, rfl, h2⟩⟩
    · refine .inr ⟨g, off, k, rfl, h1, h2, Nat.le_refl _, by omega, fun j hj => h5 j (Nat.lt_of_lt_of_le hj (Nat.mul_le_mul_right _ (by omega))), fun j u hj => h6 j u ?_⟩
      rw [List.getElem?_take] at hj
      split at hj
      · exact hj
      · cases hj
theorem Own.cap {w : World} {b0 sz n : Nat} {v : Value} {xs : List Value} (h : Own w b0 sz v n xs) : ∀ A m c, v = .slice A m c → n ≤ c := by
  intro A m c e
  rcases h.2 with ⟨h0, e1 | ⟨g, off, e1, hg⟩⟩ | ⟨g, off, c', e1, h1, h2, h3, h4, h5, h6⟩
  · omega
  · omega
  · rw [e] at e1
    injection e1 with _ _ e3
    omega
theorem stp_take (l : List Stp) (k : Nat) : (l.flatMap Stp.cells).take (k * 5) = (l.take k).flatMap Stp.cells := by
  induction l generalizing k with
  | nil => simp
  | cons s l ih =>
    cases k with
    | zero => simp
    | succ k =>
      simp only [List.flatMap_cons, List.take_succ_cons]
      rw [show (k + 1) * 5 = (Stp.cells s).length + k * 5 by simp [Stp.cells]; omega, List.take_append, List.take_of_length_le (by omega), Nat.add_sub_cancel_left, ih]
/-- What the last steps are, where there are too many. -/
def keepL (most : Nat) (l : List Stp) : List Stp := l.drop (l.length - most)
structure PushP (b0 jb : Nat) (lv : Value) (most : Nat) (l : List Stp) (q : Nat) (w : World) (e : Ending) (w' : World) : Prop where
  e : e = .returned (.tuple #[])
  j : ∃ v', JAt w' b0 jb v' most l q ∧ Keeps (fun k => k = jb ∨ (lv.ownBlock = some k ∧ b0 ≤ k)) w w'
theorem ownSl (A : Option Addr) (n c m d : Nat) : (Value.slice A n c).ownBlock = (Value.slice A m d).ownBlock := by cases A <;> rfl
/-- A journal's own cells. -/
structure JC (w : World) (b0 jb : Nat) (lv : Value) (most : Int) (p : Nat) : Prop where
  ge : b0 ≤ jb
  lt : jb < w.heap.size
  c0 : w.cell? ⟨jb, 0, none⟩ = some (.int .i64 most)
  c1 : w.cell? ⟨jb, 1, none⟩ = some lv
  c2 : w.cell? ⟨jb, 2, none⟩ = some (.int .i64 p)
  f0 : ∀ j, w.frozen? ⟨jb, j, none⟩ = false
theorem JAt.jc {w : World} {b0 jb : Nat} {lv : Value} {most : Int} {l : List Stp} {p : Nat} (h : JAt w b0 jb lv most l p) : JC w b0 jb lv most p := ⟨h.ge, h.lt, h.c0, h.c1, h.c2, h.f0⟩
theorem JC.jat {w : World} {b0 jb : Nat} {lv : Value} {most : Int} {l : List Stp} {p : Nat} (h : JC w b0 jb lv most p) (ho : Own w b0 5 lv l.length (l.flatMap Stp.cells)) (hne : lv.ownBlock ≠ some jb) (hp : p ≤ l.length) : JAt w b0 jb lv most l p := ⟨h.ge, h.lt, h.c0, h.c1, h.c2, h.f0, ho, hne, hp⟩
theorem JC.keeps {F : Nat → Prop} {w w' : World} {b0 jb : Nat} {lv : Value} {most : Int} {p : Nat} (h : JC w b0 jb lv most p) (hk : Keeps F w w') (hF : ¬ F jb) : JC w' b0 jb lv most p := by
  have e := hk.block jb h.lt hF
  exact ⟨h.ge, Nat.lt_of_lt_of_le h.lt hk.size, (World.cell?_of_block (w := w) e).trans h.c0, (World.cell?_of_block (w := w) e).trans h.c1, (World.cell?_of_block (w := w) e).trans h.c2, fun j => (World.frozen?_of_block (w := w) e).trans (h.f0 j)⟩
theorem JC.below {w w' : World} {b0 jb : Nat} {lv : Value} {most : Int} {p : Nat} (h : JC w b0 jb lv most p) (hb : Below w.heap.size w w') : JC w' b0 jb lv most p := h.keeps (Keeps.of_below (F := fun _ => False) hb) id
theorem JC.set1 {w : World} {b0 jb : Nat} {lv : Value} {most : Int} {p : Nat} (h : JC w b0 jb lv most p) (v : Value) : JC (w.setCell ⟨jb, 1, none⟩ v) b0 jb v most p :=
  ⟨h.ge, by simpa [World.setCell] using h.lt, (World.cell?_setCell_other _ _ _ _ (by simp)).trans h.c0, World.cell?_setCell_same' _ _ _ (by rw [h.c1]; rfl), (World.cell?_setCell_other _ _ _ _ (by simp)).trans h.c2, fun j => (World.frozen?_setCell _ _ _ _).trans (h.f0 j)⟩
theorem JC.set2 {w : World} {b0 jb : Nat} {lv : Value} {most : Int} {p : Nat} (h : JC w b0 jb lv most p) (q : Nat) : JC (w.setCell ⟨jb, 2, none⟩ (.int .i64 q)) b0 jb lv most q :=
  ⟨h.ge, by simpa [World.setCell] using h.lt, (World.cell?_setCell_other _ _ _ _ (by simp)).trans h.c0, (World.cell?_setCell_other _ _ _ _ (by simp)).trans h.c1, World.cell?_setCell_same' _ _ _ (by rw [h.c2]; rfl), fun j => (World.frozen?_setCell _ _ _ _).trans (h.f0 j)⟩
theorem own_dropS {w : World} {b0 g off n c d k : Nat} {l : List Stp} (h : Own w b0 5 (.slice (some ⟨g, off, none⟩) n c) l.length (l.flatMap Stp.cells)) (hd : l.length = d + k) (hn : n = l.length) : Sl w Stp.cells 5 (.slice (some ⟨g, off + d * 5, none⟩) k (c - d)) (l.drop d) := by
  subst hn
  have hcap := h.cap _ _ _ rfl
  obtain ⟨A, c', e, h1, h2, h3, h4⟩ := h.sl stp_len rfl
  injection e with e1 _ e3
  subst e1 e3
  refine ⟨_, c - d, by rw [List.length_drop]; congr 1; omega, by rw [List.length_drop]; omega, by omega, fun h => (by cases h), fun h0 => ?_⟩
  rw [List.length_drop] at h0
  obtain ⟨b, o, e, hb, hc⟩ := h4 (by omega)
  cases e
  refine ⟨g, off + d * 5, rfl, hb, fun j x hj i u hi => ?_⟩
  rw [List.getElem?_drop] at hj
  have := hc (d + j) x hj i u hi
  rwa [Nat.add_mul, ← Nat.add_assoc] at this
theorem own_snocS {w : World} {b0 : Nat} {v : Value} {l : List Stp} {s : Stp} (h : Own w b0 5 v (l.length + 1) (l.flatMap Stp.cells ++ Stp.cells s)) : Own w b0 5 v (l ++ [s]).length ((l ++ [s]).flatMap Stp.cells) := by
  rw [List.length_append, List.flatMap_append]
  simpa using h
end Go.Proofs.Ytkinjjgaecbogaa
