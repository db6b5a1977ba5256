/-
  The walks of the laws of layer 26 (fields): few, same, awake. Conditions: none beyond Go's own.
-/
import Derived.Test.YtkinjjgaecbogaaFields7
import Derived.Test.YtkinjjgaecbogaaOpen
import Derived.Test.YtkinjjgaecbogaaStr
namespace Go.Proofs.Ytkinjjgaecbogaa
open Go.ChangeShapes Go.WideShapes Go.Deep Go.RowKit
set_option maxRecDepth 100000
theorem fd_len {xs : List Fd} : ∀ x ∈ xs, (Fd.cells x).length = 2 := fun _ _ => rfl
theorem fd_flat (xs : List Fd) : (xs.flatMap Fd.cells).length = 2 * xs.length := by induction xs <;> simp_all [Fd.cells] <;> omega
def fewP (l : List Piece) : Bool := decide (l.length ≤ 12) && l.all fun p => decide (p.text.length ≤ 40)
theorem fewP_yes {l : List Piece} (h : fewP l = true) : l.length ≤ 12 ∧ ∀ p ∈ l, p.text.length ≤ 40 := by
  simp [fewP] at h; exact h
theorem few26_any (xs : List Piece) (v : Value) (w : World) (hv : Sl w Piece.cells 3 v xs) :
    Calls Try.prog 29 #[v] w fun e w' => e = .returned (.bool (fewP xs)) ∧ Below w.heap.size w w' := by
  obtain ⟨A, c, rfl, hc1, hc2, hn, hA⟩ := hv
  have HA := Lib.hid hA
  clear hA hn
  by_cases hl : 12 < xs.length
  · have : fewP xs = false := by simp [fewP]; omega
    rw [this]
    clear this
    go_enter Try.func29, Try.ntmps29
    go_wp2
    go_ret
    exact ⟨rfl, by (repeat (first | exact Below.refl _ _ | assumption | with_reducible refine below_alloc ?_ _ | with_reducible refine below_grow ?_ _ | with_reducible refine below_drewN ?_ _ | with_reducible refine below_drew ?_ | with_reducible refine below_setCell ?_ (by first | (dsimp only; omega) | (simp; done) | (simp; omega)) _))⟩
  · have hl1 : decide ((12 : Int) < (xs.length : Int)) = false := no (by omega)
    have hl2 : xs.length ≤ 12 := by omega
    go_enter Try.func29, Try.ntmps29
    go_wp2
    clear hl1
    go_loopw [3] (fun i w' => ∃ k : Nat, k ≤ xs.length ∧ i = .int .i64 k ∧ Hid ((xs.take k).all (fun x => decide (x.text.length ≤ 40)) = true) ∧ w = w') (fun i _ => xs.length - (intOf i).toNat)
    case atStart => exact ⟨0, by omega, rfl, rfl, rfl⟩
    case round =>
      obtain ⟨k, hk, rfl, Hall, rfl⟩ := hrel
      by_cases hlt : k < xs.length
      · obtain ⟨b, off, rfl, hb, hc⟩ := HA.out (by omega)
        have e0 : w.cell? ⟨b, off + k * 3 + 2, none⟩ = some (.string (B (xs[k]).text)) := hc k _ (List.getElem?_eq_getElem hlt) 2 _ rfl
        clear hc
        have HT := Lib.hid (show xs.take (k + 1) = xs.take k ++ [xs[k]] by rw [List.take_succ_eq_append_getElem hlt])
        have HM := Lib.hid (List.getElem_mem hlt)
        generalize xs[k] = x at *
        by_cases hx : 40 < x.text.length
        · go_wp2
          go_ret
          refine ⟨?_, by (repeat (first | exact Below.refl _ _ | assumption | with_reducible refine below_alloc ?_ _ | with_reducible refine below_grow ?_ _ | with_reducible refine below_drewN ?_ _ | with_reducible refine below_drew ?_ | with_reducible refine below_setCell ?_ (by first | (dsimp only; omega) | (simp; done) | (simp; omega)) _))⟩
          have : fewP xs = false := by
            unfold fewP
            rw [Bool.and_eq_false_iff]
            right
            rw [List.all_eq_false]
            exact ⟨x, HM.out, by simp; omega⟩
          rw [this]; rfl
        · have hx' := no hx
          go_wp2
          go_roundw
          case rel => exact ⟨k + 1, by omega, by go_num, by show _ = true; rw [HT.out, List.all_append, Hall.out]; simp; omega, trivial⟩
          case measure => simp [intOf]; omega
      · have hk' : k = xs.length := by omega
        have HK := Lib.hid hk'
        clear hk'
        go_wp2
        go_ret
        refine ⟨?_, by (repeat (first | exact Below.refl _ _ | assumption | with_reducible refine below_alloc ?_ _ | with_reducible refine below_grow ?_ _ | with_reducible refine below_drewN ?_ _ | with_reducible refine below_drew ?_ | with_reducible refine below_setCell ?_ (by first | (dsimp only; omega) | (simp; done) | (simp; omega)) _))⟩
        have h1 := Hall.out
        rw [HK.out, List.take_length] at h1
        have : fewP xs = true := by unfold fewP; rw [h1]; simp; exact hl2
        rw [this]; rfl
/-- Whether two rows of fields are the same. -/
theorem same_fd (xs ys : List Fd) (u v : Value) (w : World) (hu : Sl w Fd.cells 2 u xs) (hv : Sl w Fd.cells 2 v ys) :
    Calls Try.prog 30 #[u, v] w fun e w' => e = .returned (.bool (decide (xs = ys))) ∧ Below w.heap.size w w' := by
  obtain ⟨A, c, rfl, hc1, hc2, hn, hA⟩ := hu
  obtain ⟨A', c', rfl, hc1', hc2', hn', hA'⟩ := hv
  have HA := Lib.hid hA
  have HA' := Lib.hid hA'
  clear hA hA' hn hn'
  by_cases hl : xs.length = ys.length
  · have Hl := Lib.hid hl
    have hl1 : ((xs.length : Int) != (ys.length : Int)) = false := by simp [hl]
    clear hl
    go_enter Try.func30, Try.ntmps30
    go_wp2
    clear hl1
    go_loopw [5] (fun i w' => ∃ k : Nat, k ≤ xs.length ∧ i = .int .i64 k ∧ Hid (xs.take k = ys.take k) ∧ Drew w w') (fun i _ => xs.length - (intOf i).toNat)
    case atStart => exact ⟨0, by omega, rfl, rfl, .refl _⟩
    case round =>
      obtain ⟨k, hk, rfl, Heq, m, rfl⟩ := hrel
      by_cases hlt : k < xs.length
      · have hlt' : k < ys.length := by have := Hl.out; omega
        obtain ⟨b, off, rfl, hb, hc⟩ := HA.out (by omega)
        obtain ⟨b', off', rfl, hb', hc'⟩ := HA'.out (by omega)
        have e0 : w.cell? ⟨b, off + k * 2, none⟩ = some (.string (B (xs[k]).text)) := hc k _ (List.getElem?_eq_getElem hlt) 0 _ rfl
        have e1 : w.cell? ⟨b, off + k * 2 + 1, none⟩ = some (.string (B (xs[k]).pat)) := hc k _ (List.getElem?_eq_getElem hlt) 1 _ rfl
        have e2 : w.cell? ⟨b', off' + k * 2, none⟩ = some (.string (B (ys[k]).text)) := hc' k _ (List.getElem?_eq_getElem hlt') 0 _ rfl
        have e3 : w.cell? ⟨b', off' + k * 2 + 1, none⟩ = some (.string (B (ys[k]).pat)) := hc' k _ (List.getElem?_eq_getElem hlt') 1 _ rfl
        clear hc hc'
        have ht1 : xs.take (k + 1) = xs.take k ++ [xs[k]] := by rw [List.take_succ_eq_append_getElem hlt]
        have ht2 : ys.take (k + 1) = ys.take k ++ [ys[k]] := by rw [List.take_succ_eq_append_getElem hlt']
        have HT := Lib.hid (And.intro ht1 ht2)
        have HNE := Lib.hid (show xs[k] ≠ ys[k] → decide (xs = ys) = false from fun h => decide_eq_false (fun e => h (by subst e; rfl)))
        clear ht1 ht2
        have hi0 : (0 : Int) ≤ (k : Int) := by omega
        have hi1 : (k : Int) < (xs.length : Int) := by omega
        have hi2 : (k : Int) < (ys.length : Int) := by omega
        generalize xs[k] = x at *
        generalize ys[k] = y at *
        obtain ⟨t1, p1⟩ := x
        obtain ⟨t2, p2⟩ := y
        simp only at e0 e1 e2 e3
        by_cases hx : t1 = t2
        · by_cases hy : p1 = p2
          · subst hx hy
            go_wp2
            go_quiet (fail)
            go_wp2
            go_roundw
            case rel => exact ⟨k + 1, by omega, by go_num, by have h := HT.out; show _ = _; rw [h.1, h.2, Heq.out], m + nq, rfl⟩
            case measure => simp [intOf]; omega
          · subst hx
            have hy' : (p1 == p2) = false := by simpa using hy
            have HNE := Lib.hid (HNE.out (fun e => hy (by cases e; rfl)))
            clear hy
            go_wp2
            go_quiet (fail)
            go_wp2
            go_ret
            exact ⟨by rw [HNE.out]; rfl, by (repeat (first | exact Below.refl _ _ | assumption | with_reducible refine below_alloc ?_ _ | with_reducible refine below_grow ?_ _ | with_reducible refine below_drewN ?_ _ | with_reducible refine below_drew ?_ | with_reducible refine below_setCell ?_ (by first | (dsimp only; omega) | (simp; done) | (simp; omega)) _))⟩
        · have hx' : (t1 == t2) = false := by simpa using hx
          have HNE := Lib.hid (HNE.out (fun e => hx (by cases e; rfl)))
          clear hx
          go_wp2
          go_quiet (fail)
          go_wp2
          go_ret
          exact ⟨by rw [HNE.out]; rfl, by (repeat (first | exact Below.refl _ _ | assumption | with_reducible refine below_alloc ?_ _ | with_reducible refine below_grow ?_ _ | with_reducible refine below_drewN ?_ _ | with_reducible refine below_drew ?_ | with_reducible refine below_setCell ?_ (by first | (dsimp only; omega) | (simp; done) | (simp; omega)) _))⟩
      · have hk' : k = xs.length := by omega
        have HK := Lib.hid hk'
        clear hk'
        go_wp2
        go_ret
        refine ⟨?_, by (repeat (first | exact Below.refl _ _ | assumption | with_reducible refine below_alloc ?_ _ | with_reducible refine below_grow ?_ _ | with_reducible refine below_drewN ?_ _ | with_reducible refine below_drew ?_ | with_reducible refine below_setCell ?_ (by first | (dsimp only; omega) | (simp; done) | (simp; omega)) _))⟩
        have h1 := Heq.out
        rw [HK.out, List.take_length, Hl.out, List.take_length] at h1
        rw [decide_eq_true h1]; rfl
  · have hl1 : ((xs.length : Int) != (ys.length : Int)) = true := by simp; omega
    have : decide (xs = ys) = false := decide_eq_false (fun e => hl (by rw [e]))
    rw [this]
    clear hl this
    go_enter Try.func30, Try.ntmps30
    go_wp2
    go_ret
    exact ⟨rfl, by (repeat (first | exact Below.refl _ _ | assumption | with_reducible refine below_alloc ?_ _ | with_reducible refine below_grow ?_ _ | with_reducible refine below_drewN ?_ _ | with_reducible refine below_drew ?_ | with_reducible refine below_setCell ?_ (by first | (dsimp only; omega) | (simp; done) | (simp; omega)) _))⟩
theorem Own.fd {w : World} {b0 g off n c : Nat} {l : List Fd} (h : Own w b0 2 (.slice (some ⟨g, off, none⟩) n c) n (l.flatMap Fd.cells)) {k : Nat} {f : Fd} (hk : l[k]? = some f) : w.cell? ⟨g, off + k * 2, none⟩ = some (.string (B f.text)) ∧ w.cell? ⟨g, off + k * 2 + 1, none⟩ = some (.string (B f.pat)) := by
  have hn : l.length = n := by have := h.1; rw [fd_flat] at this; omega
  have hlt : k < l.length := (List.getElem?_eq_some_iff.1 hk).1
  obtain ⟨A, c', e, _, _, _, h4⟩ := h.sl fd_len hn
  obtain ⟨b, o, e2, _, hc⟩ := h4 (by omega)
  subst e2
  injection e with e _ _
  injection e with e
  cases e
  exact ⟨hc k f hk 0 _ rfl, hc k f hk 1 _ rfl⟩
theorem sl_piece (w : World) (p : Piece) (t : TypeId) : Sl (w.alloc (.cells #[.bool p.ex, .bool p.q, .string (B p.text)] t)) Piece.cells 3 (.slice (some ⟨w.heap.size, 0, none⟩) 1 1) [p] := by
  refine ⟨_, 1, rfl, by simp, by omega, fun h => (by cases h), fun _ => ⟨_, _, rfl, by simp, fun k x hk j u hj => ?_⟩⟩
  cases k with
  | succ k => simp at hk
  | zero =>
    simp at hk
    subst hk
    match j with
    | 0 => cases hj; go_simp
    | 1 => cases hj; go_simp
    | 2 => cases hj; go_simp
    | j + 3 => simp [Piece.cells] at hj
theorem awake26_any (w : World) : Calls Try.prog 28 #[] w fun e w' => e = .returned (.bool true) ∧ Below w.heap.size w w' := by
  have HS : ∀ W : World, Hid (Calls Try.prog 31 #[.slice (some ⟨W.heap.size, 0, none⟩) 1 1, .string (B [32])] (W.alloc (.cells #[.bool true, .bool false, .string (B [32, 97, 32, 32, 98, 32])] 51)) (SplitPost [⟨[97], [97]⟩, ⟨[98], [98]⟩] (W.alloc (.cells #[.bool true, .bool false, .string (B [32, 97, 32, 32, 98, 32])] 51)))) := fun W : World =>
    split_any _ [⟨true, false, [32, 97, 32, 32, 98, 32]⟩] [32] _ (sl_piece W ⟨true, false, [32, 97, 32, 32, 98, 32]⟩ _) (by simp) (by simp) (by decide)
  have HS := Lib.hid HS
  go_enter Try.func28, Try.ntmps28
  go_wp2_with (go_at_call 31; refine (HS.out _).out.mono ?_; rintro e w1 ⟨v, rfl, ho, hb⟩; obtain ⟨g, o, c, rfl, -, -, -, -⟩ := ho.form; have c0 := (ho.fd (k := 0) rfl).1; have c1 := (ho.fd (k := 1) rfl).1; simp only [Nat.zero_mul, Nat.one_mul, Nat.add_zero] at c0 c1; have HB := Lib.hid hb; clear ho hb)
  go_ret
  exact ⟨rfl, below_then (below_alloc (Below.refl _ _) _) HB.out⟩
end Go.Proofs.Ytkinjjgaecbogaa
