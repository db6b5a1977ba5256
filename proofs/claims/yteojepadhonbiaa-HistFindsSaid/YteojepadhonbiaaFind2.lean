/-
  The walk of (*hist.Hist).older, an iterator over a history's lines ahead of a number, the last one first.
-/
import Derived.Test.YteojepadhonbiaaFind
import Derived.Test.YteojepadhonbiaaBox
import Derived.Test.YteojepadhonbiaaTailIn
namespace Go.Proofs.Yteojepadhonbiaa
open Go.ChangeShapes Go.WideShapes Go.Deep Go.RowKit Go.Shelf
attribute [local go_sem] Oper.semAt_some
set_option maxRecDepth 100000
/-- The numbers below m, falling. -/
def downs : Nat → List Nat
  | 0 => []
  | m + 1 => m :: downs m
theorem downs_len : ∀ m, (downs m).length = m
  | 0 => rfl
  | m + 1 => by simp [downs, downs_len m]
def encL (xs : List (List UInt8)) (i : Nat) : Array Value := #[.int .i64 i, .string (B ((xs[i]?).getD []))]
theorem strC_get (xs : List (List UInt8)) (j : Nat) : (xs.flatMap strC)[j]? = (xs[j]?).map fun y => Value.string (B y) := by
  induction xs generalizing j with
  | nil => simp
  | cons y ys ih =>
    cases j with
    | zero => simp [strC]
    | succ j => simpa [strC] using ih j
theorem Own.str {w : World} {b0 g off n c : Nat} {xs : List (List UInt8)} (h : Own w b0 1 (.slice (some ⟨g, off, none⟩) n c) n (xs.flatMap strC)) {i : Nat} {x : List UInt8} (hx : xs[i]? = some x) : w.cell? ⟨g, off + i, none⟩ = some (.string (B x)) ∧ g < w.heap.size := by
  have hi : i < xs.length := (List.getElem?_eq_some_iff.1 hx).1
  rcases h.2 with ⟨h0, e | ⟨g', off', e, hg⟩⟩ | ⟨g', off', c', e, g1, g2, g3, g4, g5, g6⟩
  · cases e
  · exact absurd h.1 (by rw [strC_flat, h0]; omega)
  · injection e with e1
    injection e1 with e1
    injection e1 with e1 e2
    subst e1 e2
    refine ⟨g6 _ _ ?_, g2⟩
    rw [strC_get, hx]
    rfl
set_option maxHeartbeats 2000000 in
theorem older1 (n : Nat) (hn : 1 ≤ n) (l b0 b1 b2 hb : Nat) (lv : Value) (most : Int) (m q : Nat) (xs : List (List UInt8)) (hx : xs.length ≤ 1048576) (hq : m = min q xs.length) (J Jx : List Nat → World → Prop)
    (hY : ∀ pre x W, J pre W → pre.length < (downs m).length → YieldAt Fence.wide (n - 1) Try.prog l (encL xs x) W fun e W' =>
      (e = .returned (.bool true) ∧ J (pre ++ [x]) W' ∧ KeepG (fun k => k = b1 ∨ k = b2 ∨ k = hb ∨ lv.ownBlock = some k) W W') ∨ (e = .returned (.bool false) ∧ Jx (pre ++ [x]) W'))
    (hJb : ∀ pre W W', Below W.heap.size W W' → J pre W → J pre W')
    (W : World) (h1 : W.cell? ⟨b1, 0, none⟩ = some (.int .i64 q)) (h2 : W.cell? ⟨b2, 0, none⟩ = some (.pointer (some ⟨hb, 0, none⟩))) (hh : HistAt W b0 hb lv most xs) (h0 : J [] W) :
    CallsIn Fence.wide n Try.prog 113 #[.func (.yield l) #[] #[], .pointer (some ⟨b1, 0, none⟩), .pointer (some ⟨b2, 0, none⟩)] W fun e W' => (∃ v, e = .returned v) ∧
      ((∃ ys, ys = downs m ∧ J ys W') ∨ (∃ pre, pre <+: downs m ∧ Jx pre W')) := by
  have HY := Lib.hid hY
  have HJB := Lib.hid hJb
  have H0 := Lib.hid h0
  have HH := Lib.hid hh
  clear hY hJb h0
  have c1 := hh.c1
  have hlb : hb < W.heap.size := hh.lt
  obtain ⟨A, c, rfl⟩ : ∃ A c, lv = .slice A xs.length c := by
    rcases hh.own.2 with ⟨h0, e | ⟨g', off', e, hg⟩⟩ | ⟨g', off', c', e, _⟩
    · exact ⟨none, 0, by rw [e, h0]⟩
    · exact ⟨_, 0, by rw [e, h0]⟩
    · exact ⟨_, _, e⟩
  haveI : Old W b1 := ⟨World.block_lt_of_cell? W _ h1⟩
  haveI : Old W b2 := ⟨World.block_lt_of_cell? W _ h2⟩
  haveI : Old W hb := ⟨hlb⟩
  clear hh
  refine callsIn_of_wp Try.func113 rfl trivial ?_ rfl
  simp only [Try.ntmps113, List.size_toArray, List.length_cons, List.length_nil, Nat.reduceAdd, Nat.reduceSub, Array.replicate_succ, Array.replicate_zero, List.push_toArray, List.append_toArray, List.nil_append, List.cons_append]
  gi_wp2
  (refine wpIn_region_growL (lax_wide) (by kernel_rfl) (by kernel_rfl) (by kernel_rfl) ?_; (repeat (go_big_quiet_step (fail))); refine wpQuiet_nil ?_; intro _ hw'; obtain ⟨gq, hw''⟩ := hw'; subst hw'')
  gi_wp2
  have hmq : min (q : Int) (xs.length : Int) = (m : Int) := by omega
  have hmx : m ≤ xs.length := by omega
  rw [hmq]
  clear hmq hq
  have HJ1 := Lib.hid (HJB.out _ _ _ (grow_below W gq) H0.out)
  have HK1 := Lib.hid (KeepG.of_below (G := fun k => k = b1 ∨ k = b2 ∨ k = hb ∨ (Value.slice A xs.length c).ownBlock = some k) (grow_below W gq) (fun k hk => by
    rcases hk with rfl | rfl | rfl | e
    · exact World.block_lt_of_cell? W _ h1
    · exact World.block_lt_of_cell? W _ h2
    · exact hlb
    · exact HH.out.own.lt k e))
  generalize grow W gq = W1 at *
  gi_loopw [4] (fun i wr => ∃ (k : Nat) (pre : List Nat), k ≤ m ∧ i = .int .i64 ((k : Int) - 1) ∧ Hid (downs m = pre ++ downs k) ∧ Hid (J pre wr) ∧ Hid (KeepG (fun k => k = b1 ∨ k = b2 ∨ k = hb ∨ (Value.slice A xs.length c).ownBlock = some k) W wr)) (fun i _ => (intOf i + 1).toNat)
  case atStart => exact ⟨m, [], by omega, rfl, rfl, HJ1.out, HK1.out⟩
  case round =>
    clear HJ1 HK1
    obtain ⟨k, pre, hk, rfl, HP, HJ, HK⟩ := hrel
    match k, hk, HP with
    | 0, hk, HP =>
      have h3 : downs m = pre := by rw [HP.out]; simp [downs]
      have H3 := Lib.hid h3
      clear h3
      gi_wp2
      go_end0
      exact ⟨⟨_, rfl⟩, .inl ⟨_, H3.out.symm, HJ.out⟩⟩
    | k + 1, hk, HP =>
      have hkx : k < xs.length := by omega
      obtain ⟨x, hxk⟩ := get_some hkx
      obtain ⟨g, off, rfl⟩ : ∃ g off, A = some ⟨g, off, none⟩ := by
        obtain ⟨g, off, c', e, -⟩ := HH.out.own.form' (by omega)
        injection e with e1
        exact ⟨g, off, e1⟩
      obtain ⟨hx1, hx2⟩ := HH.out.own.str hxk
      have z2 := (HK.out.cell (o := 0) (.inr (.inl rfl))).trans h2
      have z3 := (HK.out.cell (o := 1) (.inr (.inr (.inl rfl)))).trans c1
      have z4 := (HK.out.cell (o := off + k) (.inr (.inr (.inr rfl)))).trans hx1
      haveI : Old wr b2 := ⟨World.block_lt_of_cell? _ _ z2⟩
      haveI : Old wr hb := ⟨World.block_lt_of_cell? _ _ z3⟩
      haveI : Old wr g := ⟨World.block_lt_of_cell? _ _ z4⟩
      have k0 : (0 : Int) ≤ (k : Int) := by omega
      have k1 : (k : Int) < (xs.length : Int) := by omega
      have hkk : ((k + 1 : Nat) : Int) - 1 = (k : Int) := by omega
      rw [hkk]
      have hp2 : downs m = (pre ++ [k]) ++ downs k := by rw [HP.out]; simp [downs]
      have hlen : pre.length < (downs m).length := by rw [hp2]; simp
      have HP2 := Lib.hid hp2
      have HEN : Hid (encL xs k = #[.int .i64 k, .string (B x)]) := by show _ = _; unfold encL; rw [hxk]; rfl
      obtain ⟨fn, tmps, assign, body, hy, hR⟩ := HY.out _ k _ HJ.out hlen
      rw [HEN.out] at hy
      clear hlen hp2 hxk
      gi_wp2
      refine hR.mono ?_
      rintro e W3 (⟨rfl, hJ3, hk3⟩ | ⟨rfl, hJx3⟩)
      · have HJ3 := Lib.hid hJ3
        have HK3 := Lib.hid (fun j hj => (hk3 j hj).trans (HK.out j hj))
        clear hk3 hJ3
        gi_wp2
        go_roundw
        case rel => exact ⟨k, _, by omega, by go_num, HP2.out, HJ3.out, HK3.out⟩
        case measure => simp [intOf]
      · have HJ3 := Lib.hid hJx3
        clear hJx3
        gi_wp2
        refine bodyPost_ret (results_none rfl _ _ _) rfl ?_
        exact ⟨⟨_, rfl⟩, .inr ⟨_, ⟨_, HP2.out.symm⟩, HJ3.out⟩⟩
theorem older_any (w : World) (hb : Nat) (before : Int) : Calls Try.prog 85 #[.pointer (some ⟨hb, 0, none⟩), .int .i64 before] w fun e w' => e = .returned (.func (.func 113) #[] #[.pointer (some ⟨w.heap.size + 1, 0, none⟩), .pointer (some ⟨w.heap.size, 0, none⟩)]) ∧
    w' = (w.alloc (.cells #[.pointer (some ⟨hb, 0, none⟩)] 71)).alloc (.cells #[.int .i64 before] 3) := by
  go_enter Try.func85, Try.ntmps85
  go_wp2
  go_ret
  exact ⟨rfl, rfl⟩
theorem older_gives (w : World) (b0 hb : Nat) (lv : Value) (most : Int) (q : Nat) (z : Int) (hz : z = q) (xs : List (List UInt8)) (hx : xs.length ≤ 1048576) (hh : HistAt w b0 hb lv most xs) :
    Gives Try.prog 113 #[.pointer (some ⟨w.heap.size + 1, 0, none⟩), .pointer (some ⟨w.heap.size, 0, none⟩)] (encL xs) (fun k => k = w.heap.size + 1 ∨ k = w.heap.size ∨ k = hb ∨ lv.ownBlock = some k) (downs (min q xs.length))
      ((w.alloc (.cells #[.pointer (some ⟨hb, 0, none⟩)] 71)).alloc (.cells #[.int .i64 z] 3)) := by
  subst hz
  intro n hn l J Jx W hW hJ _ hY h0
  refine older1 n hn l b0 _ _ hb lv most _ q xs hx rfl J Jx hY (fun s A A' hb h => hJ s A A' none h (grownBy_below hb none) (fun r e => by cases e)) W ?_ ?_ ((hh.below (below_alloc (below_alloc (Below.refl _ _) _) _)).below hW) h0
  · rw [hW.cell (by simp <;> omega)]; simp [go_sem]
  · rw [hW.cell (by simp <;> omega)]; simp [go_sem]
end Go.Proofs.Yteojepadhonbiaa
