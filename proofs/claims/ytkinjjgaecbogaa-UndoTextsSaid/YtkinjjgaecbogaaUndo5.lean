/-
  The walks of layer 2 (undo), on: the iterator over a part of a journal. Conditions: at most 2^30 steps.
-/
import Derived.Test.YtkinjjgaecbogaaUndo4
import Derived.Test.YtkinjjgaecbogaaTailIn
import Derived.Test.YtkinjjgaecbogaaLines2
import Derived.Test.YtkinjjgaecbogaaFields
namespace Go.Proofs.Ytkinjjgaecbogaa
open Go.ChangeShapes Go.WideShapes Go.Deep Go.RowKit Go.Shelf
attribute [local go_sem] Oper.semAt_some
set_option maxRecDepth 100000
def encS (s : Stp) : Array Value := #[s.val]
theorem lt_of_same {w W : World} {g : Nat} (h : w.heap[g]? = W.heap[g]?) (hg : g < W.heap.size) : g < w.heap.size := by
  rcases Nat.lt_or_ge g w.heap.size with h1 | h1
  · exact h1
  · rw [Array.getElem?_eq_none h1, Array.getElem?_eq_getElem hg] at h; cases h
set_option maxHeartbeats 2000000 in
theorem part1 (n : Nat) (hn : 1 ≤ n) (lab x1 x2 x3 jb : Nat) (A : Option Addr) (c : Nat) (l : List Stp) (a m b0 : Nat) (hm : a + m ≤ l.length) (hl : l.length ≤ 1073741824) (J Jx : List Stp → World → Prop)
    (hY : ∀ pre x W, J pre W → pre.length < ((l.drop a).take m).length → YieldAt Fence.wide (n - 1) Try.prog lab #[x.val] W fun e W' =>
      (e = .returned (.bool true) ∧ J (pre ++ [x]) W' ∧ KeepG (fun k => (Value.slice A l.length c).ownBlock = some k) W W') ∨ (e = .returned (.bool false) ∧ Jx (pre ++ [x]) W'))
    (W : World) (hJ : ∀ s A A', J s A → Below A.heap.size A A' → J s A') (h1 : W.cell? ⟨x1, 0, none⟩ = some (.pointer (some ⟨jb, 0, none⟩))) (h2 : W.cell? ⟨x2, 0, none⟩ = some (.int .i64 a)) (h3 : W.cell? ⟨x3, 0, none⟩ = some (.int .i64 ((a + m : Nat) : Int)))
    (hc : W.cell? ⟨jb, 1, none⟩ = some (.slice A l.length c)) (hown : Own W b0 5 (.slice A l.length c) l.length (l.flatMap Stp.cells)) (h0 : J [] W) :
    CallsIn Fence.wide n Try.prog 102 #[.func (.yield lab) #[] #[], .pointer (some ⟨x1, 0, none⟩), .pointer (some ⟨x2, 0, none⟩), .pointer (some ⟨x3, 0, none⟩)] W fun e W' => (∃ v, e = .returned v) ∧
      ((∃ ys, ys = (l.drop a).take m ∧ J ys W') ∨ (∃ pre, pre <+: (l.drop a).take m ∧ Jx pre W')) := by
  have HY := Lib.hid hY
  have HJA := Lib.hid hJ
  have hcap := hown.cap _ _ _ rfl
  have HO := Lib.hid hown
  have H0 := Lib.hid h0
  have hjl : jb < W.heap.size := World.block_lt_of_cell? W _ hc
  have hxl : ((l.drop a).take m).length = m := by simp; omega
  clear hY hJ hown h0
  haveI : Old W jb := ⟨hjl⟩
  haveI : Old W x1 := ⟨World.block_lt_of_cell? W _ h1⟩
  haveI : Old W x2 := ⟨World.block_lt_of_cell? W _ h2⟩
  haveI : Old W x3 := ⟨World.block_lt_of_cell? W _ h3⟩
  have hcast : ((a + m : Nat) : Int) = (a : Int) + (m : Int) := by omega
  rw [hcast] at h3
  have ha0 : (0 : Int) ≤ (a : Int) := by omega
  have ham : (a : Int) ≤ (a : Int) + (m : Int) := by omega
  have hamc : (a : Int) + (m : Int) ≤ (c : Int) := by omega
  by_cases hm0 : m = 0
  · subst hm0
    have hx0 : (l.drop a).take 0 = [] := rfl
    refine callsIn_of_wp Try.func102 rfl trivial ?_ rfl
    simp only [Try.ntmps102, List.size_toArray, List.length_cons, List.length_nil, Nat.reduceAdd, Nat.reduceSub, Array.replicate_succ, Array.replicate_zero, List.push_toArray, List.append_toArray, List.nil_append, List.cons_append]
    gi_wp2
    (refine wpIn_region_growL (lax_wide) (by kernel_rfl) (by kernel_rfl) (by kernel_rfl) ?_; (repeat (go_big_quiet_step (fail))); refine wpQuiet_nil ?_; intro _ hw'; obtain ⟨gq, hw''⟩ := hw'; subst hw'')
    gi_wp2
    all_goals
      have HJ1 := Lib.hid (HJA.out _ _ _ H0.out (grow_below W gq))
      gi_loopw [15] (fun i wr => i = .int .i64 0 ∧ Hid (J [] wr)) (fun _ _ => 0)
      case atStart => exact ⟨rfl, HJ1.out⟩
      case round =>
        obtain ⟨rfl, HJ⟩ := hrel
        gi_wp2
        go_end0
        exact ⟨⟨_, rfl⟩, .inl ⟨_, hx0.symm, HJ.out⟩⟩
  · obtain ⟨g, off, c', e, hgb, hg, -, -⟩ := HO.out.form' (by omega)
    injection e with e1 _ e3
    subst e1 e3
    have hne : ¬ c = a := by omega
    refine callsIn_of_wp Try.func102 rfl trivial ?_ rfl
    simp only [Try.ntmps102, List.size_toArray, List.length_cons, List.length_nil, Nat.reduceAdd, Nat.reduceSub, Array.replicate_succ, Array.replicate_zero, List.push_toArray, List.append_toArray, List.nil_append, List.cons_append]
    gi_wp2
    (refine wpIn_region_growL (lax_wide) (by kernel_rfl) (by kernel_rfl) (by kernel_rfl) ?_; (repeat (go_big_quiet_step (fail))); refine wpQuiet_nil ?_; intro _ hw'; obtain ⟨gq, hw''⟩ := hw'; subst hw'')
    gi_wp2
    rw [Nat.add_sub_cancel_left]
    have HJ1 := Lib.hid (HJA.out _ _ _ H0.out (grow_below W gq))
    have HGB := Lib.hid (heap_grow_lt W gq g hg)
    generalize grow W gq = W1 at *
    gi_loopw [15] (fun i wr => ∃ k : Nat, k ≤ m ∧ i = .int .i64 k ∧ Hid (J (((l.drop a).take m).take k) wr) ∧ Hid (wr.heap[g]? = W.heap[g]?)) (fun i _ => m - (intOf i).toNat)
    case atStart => exact ⟨0, by omega, rfl, HJ1.out, HGB.out⟩
    case round =>
      clear HJ1 HGB h1 h2 h3 hc
      obtain ⟨k, hk, rfl, HJ, HB⟩ := hrel
      have hgr := lt_of_same HB.out hg
      haveI : Old wr g := ⟨hgr⟩
      by_cases hltk : k < m
      · obtain ⟨s, hs⟩ := get_some (show a + k < l.length by omega)
        obtain ⟨e0, e1, e2, e3, e4⟩ := HO.out.stp hs
        have he : off + (a + k) * 5 = off + a * 5 + k * 5 := by omega
        rw [he] at e0 e1 e2 e3 e4
        replace e0 := (World.cell?_of_block (w := W) HB.out).trans e0
        replace e1 := (World.cell?_of_block (w := W) HB.out).trans e1
        replace e2 := (World.cell?_of_block (w := W) HB.out).trans e2
        replace e3 := (World.cell?_of_block (w := W) HB.out).trans e3
        replace e4 := (World.cell?_of_block (w := W) HB.out).trans e4
        have hxs : ((l.drop a).take m)[k]? = some s := by rw [List.getElem?_take, if_pos hltk, List.getElem?_drop]; exact hs
        have HT := Lib.hid (take_snoc1 hxs)
        have hk0 : (0 : Int) ≤ (k : Int) := by omega
        have hk1 : (k : Int) < (m : Int) := by omega
        have hlen : (((l.drop a).take m).take k).length < ((l.drop a).take m).length := by rw [List.length_take, hxl]; omega
        have HL := Lib.hid hlen
        clear hlen hxs hs he
        have HJ0 := HJA.out _ _ _ HJ.out (below_alloc (Below.refl _ _) (.cells #[.int .i64 s.ed.pos, .string (B s.ed.del), .string (B s.ed.ins), .int .i64 s.ahead, .int .i64 s.behind] 89))
        have HB0 := Lib.hid ((heap_alloc_lt wr (.cells #[.int .i64 s.ed.pos, .string (B s.ed.del), .string (B s.ed.ins), .int .i64 s.ahead, .int .i64 s.behind] 89) g hgr).trans HB.out)
        obtain ⟨fn, tmps, assign, body, hy, hR⟩ := HY.out _ s _ HJ0 HL.out
        unfold Stp.val at hy
        clear HJ0
        gi_wp2
        refine hR.mono ?_
        rintro e W3 (⟨rfl, hJ3, hk3⟩ | ⟨rfl, hJx3⟩)
        · have HB3 := Lib.hid ((hk3 g rfl).trans HB0.out)
          have HJ3 := Lib.hid hJ3
          clear hJ3 hk3
          gi_wp2
          go_roundw
          case rel => exact ⟨k + 1, by omega, by go_num, by show J _ _; rw [HT.out]; exact HJ3.out, HB3.out⟩
          case measure => simp [intOf]; omega
        · have HJ3 := Lib.hid hJx3
          clear hJx3
          gi_wp2
          refine bodyPost_ret (results_none rfl _ _ _) rfl ?_
          refine ⟨⟨_, rfl⟩, .inr ⟨_, ?_, HJ3.out⟩⟩
          rw [← HT.out]
          exact List.take_prefix _ _
      · have hkm : k = m := by omega
        have h3 := HJ.out
        rw [List.take_of_length_le (by omega)] at h3
        have H3 := Lib.hid h3
        clear h3 HJ
        gi_wp2
        go_end0
        exact ⟨⟨_, rfl⟩, .inl ⟨_, rfl, H3.out⟩⟩
theorem part_any (w : World) (jb : Nat) (a b : Int) : Calls Try.prog 87 #[.pointer (some ⟨jb, 0, none⟩), .int .i64 a, .int .i64 b] w fun e w' => e = .returned (.func (.func 102) #[] #[.pointer (some ⟨w.heap.size, 0, none⟩), .pointer (some ⟨w.heap.size + 1, 0, none⟩), .pointer (some ⟨w.heap.size + 1 + 1, 0, none⟩)]) ∧
    w' = ((w.alloc (.cells #[.pointer (some ⟨jb, 0, none⟩)] 85)).alloc (.cells #[.int .i64 a] 3)).alloc (.cells #[.int .i64 b] 3) := by
  go_enter Try.func87, Try.ntmps87
  go_wp2
  go_ret
  exact ⟨rfl, rfl⟩
/-- What part tells, at the world that it leaves. -/
theorem part_gives (w : World) (b0 jb : Nat) (A : Option Addr) (c : Nat) (most : Int) (l : List Stp) (p a m : Nat) (h : JAt w b0 jb (.slice A l.length c) most l p) (hm : a + m ≤ l.length) (hl : l.length ≤ 1073741824) :
    Gives Try.prog 102 #[.pointer (some ⟨w.heap.size, 0, none⟩), .pointer (some ⟨w.heap.size + 1, 0, none⟩), .pointer (some ⟨w.heap.size + 1 + 1, 0, none⟩)] encS (fun k => (Value.slice A l.length c).ownBlock = some k) ((l.drop a).take m)
      (((w.alloc (.cells #[.pointer (some ⟨jb, 0, none⟩)] 85)).alloc (.cells #[.int .i64 a] 3)).alloc (.cells #[.int .i64 ((a + m : Nat) : Int)] 3)) := by
  intro n hn lab J Jx W hW hJ _ hY h0
  have hwb : Below w.heap.size w W := below_then (by (repeat (first | exact Below.refl _ _ | assumption | with_reducible refine below_alloc ?_ _ | with_reducible refine below_grow ?_ _ | with_reducible refine below_drewN ?_ _ | with_reducible refine below_drew ?_ | with_reducible refine below_setCell ?_ (by first | (dsimp only; omega) | (simp; done) | (simp; omega)) _))) hW
  refine part1 n hn lab _ _ _ jb A c l a m b0 hm hl J Jx hY W (fun s A A' h hb => hJ s A A' none h (grownBy_below hb none) (fun r e => by cases e)) ?_ ?_ ?_ ?_ (h.own.below hwb) h0
  · rw [hW.cell (by simp; omega)]; simp [go_sem]
  · rw [hW.cell (by simp; try omega)]; simp [go_sem]
  · rw [hW.cell (by simp)]; simp [go_sem]
  · exact (hwb.cell (p := ⟨jb, 1, none⟩) h.lt).trans h.c1
end Go.Proofs.Ytkinjjgaecbogaa
