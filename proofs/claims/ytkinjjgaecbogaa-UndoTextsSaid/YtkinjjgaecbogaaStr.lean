/-
  Slices of texts: slices.Clone, and whether two are the same. Conditions: at most 2^40 texts.
-/
import Derived.Test.YtkinjjgaecbogaaProg
import Derived.Test.YtkinjjgaecbogaaOwn
import Derived.Test.YtkinjjgaecbogaaTail
namespace Go.Proofs.Ytkinjjgaecbogaa
open Go.ChangeShapes Go.WideShapes Go.Deep Go.RowKit
/-- The cells of a text. -/
def strC (s : List UInt8) : List Value := [.string (B s)]
theorem strC_len {xs : List (List UInt8)} : ∀ x ∈ xs, (strC x).length = 1 := fun _ _ => rfl
theorem strC_flat (xs : List (List UInt8)) : (xs.flatMap strC).length = xs.length := by induction xs <;> simp_all [strC]
theorem strC_one {xs : List (List UInt8)} : ∀ u ∈ xs.flatMap strC, u.oneCell' = true := by
  intro u hu
  simp [strC] at hu
  obtain ⟨a, _, rfl⟩ := hu
  rfl
theorem flat_get (ys : List (List UInt8)) (j : Nat) : (ys.flatMap strC)[j]? = (ys[j]?).map fun y => Value.string (B y) := by
  induction ys generalizing j with
  | nil => simp
  | cons y ys ih =>
    cases j with
    | zero => simp [strC]
    | succ j => simpa [strC] using ih j
theorem Own.cellOk {w : World} {b0 g off n c : Nat} {ys : List (List UInt8)} (h : Own w b0 1 (.slice (some ⟨g, off, none⟩) n c) n (ys.flatMap strC)) (k : Nat) (hk : k < n) :
    ∃ y, ys[k]? = some y ∧ w.cell? ⟨g, off + k, none⟩ = some (.string (B y)) ∧ w.frozen? ⟨g, off + k, none⟩ = false := by
  have hl := h.1
  rw [strC_flat, Nat.mul_one] at hl
  rcases h.2 with ⟨h0, _⟩ | ⟨g', off', c', e, h1, h2, h3, h4, h5, h6⟩
  · omega
  · simp only [Value.slice.injEq, Option.some.injEq, Addr.mk.injEq, and_true, true_and] at e
    obtain ⟨⟨rfl, rfl⟩, rfl⟩ := e
    have hy : ys[k]? = some (ys[k]'(by omega)) := List.getElem?_eq_getElem (by omega)
    exact ⟨_, hy, h6 k _ (by rw [flat_get, hy]; rfl), (h5 k (by omega)).2⟩
theorem info_str : (Try.prog.info? 9).map (fun i => (i.zero, i.size, i.bytes)) = some (some (.string ByteArray.empty), 1, 16) := by kernel_rfl
def ClonePost (xs : List (List UInt8)) (w : World) (e : Ending) (w' : World) : Prop :=
  ∃ v, e = .returned v ∧ Own w' w.heap.size 1 v xs.length (xs.flatMap strC) ∧ Below w.heap.size w w'
set_option maxRecDepth 100000 in
theorem clone_str (xs : List (List UInt8)) (v : Value) (w : World) (h : Sl w strC 1 v xs) (hl : xs.length ≤ 1099511627776) :
    Calls Try.prog 66 #[v] w (ClonePost xs w) := by
  obtain ⟨i0, hi0, hz00, hz01, hz02⟩ := info_parts info_str
  have hs := h.src strC_len
  obtain ⟨A, c, rfl, hc1, hc2, hn, hA⟩ := h
  cases A with
  | none =>
    have h0 := hn rfl
    have h1 : xs.length = 0 := by omega
    obtain rfl := List.eq_nil_of_length_eq_zero h1
    subst h0
    have hnil := @Lib.run_eql_slice_nil Try.prog
    go_enter Try.func66, Try.ntmps66
    go_wp2
    go_ret
    exact ⟨_, rfl, Own.nil _ _ _, Below.refl _ _⟩
  | some a =>
    have Hs := Lib.hid hs
    clear hs hn hA
    have hnil := fun w => Lib.run_eql_slice_nil (P := Try.prog) w 22 9 (some a) xs.length c 0 0 Try.underlying22
    go_enter Try.func66, Try.ntmps66
    go_wp2_with (at_builtin; refine wpList_append_src _ rfl (.tmp 5) (.tmp 6) _ rfl w.heap.size 9 i0 _ 1 16 Try.underlying22 hi0 hz00 hz01 hz02 rfl (by decide) _ 0 [] rfl (Own.none_ _ _ _ _ _ (by simp)) _ xs.length (xs.flatMap strC) rfl (by rw [strC_flat, Nat.mul_one]) (Hs.out.below (by (repeat (first | exact Below.refl _ _ | assumption | with_reducible refine below_alloc ?_ _ | with_reducible refine below_grow ?_ _ | with_reducible refine below_drewN ?_ _ | with_reducible refine below_drew ?_ | with_reducible refine below_setCell ?_ (by first | (dsimp only; omega) | (simp; done) | (simp; omega)) _)))) strC_one (by unfold maxLen; omega) (by omega) (by first | (simp; done) | omega | (simp; omega)) ?_; intro v1 w1 hown1 hg1 hat1 hty1; have HTY1 := Lib.hid hty1; clear hty1)
    go_ret
    exact ⟨v1, rfl, by simpa using hown1, below_keeps (by (repeat (first | exact Below.refl _ _ | assumption | with_reducible refine below_alloc ?_ _ | with_reducible refine below_grow ?_ _ | with_reducible refine below_drewN ?_ _ | with_reducible refine below_drew ?_ | with_reducible refine below_setCell ?_ (by first | (dsimp only; omega) | (simp; done) | (simp; omega)) _))) hg1 (fun k hk => hk.2)⟩
/-- Whether two rows of texts are the same. -/
theorem same_str (xs ys : List (List UInt8)) (u v : Value) (w : World) (hu : Sl w strC 1 u xs) (hv : Sl w strC 1 v ys) :
    Calls Try.prog 21 #[u, v] w fun e w' => e = .returned (.bool (xs == ys)) ∧ Below w.heap.size w w' := by
  obtain ⟨A, c, rfl, hc1, hc2, hn, hA⟩ := hu
  obtain ⟨A', c', rfl, hc1', hc2', hn', hA'⟩ := hv
  have HA := Lib.hid hA
  have HA' := Lib.hid hA'
  clear hA hA' hn hn'
  by_cases hl : xs.length = ys.length
  · have Hl := Lib.hid hl
    have hl1 : ((xs.length : Int) != (ys.length : Int)) = false := by simp [hl]
    clear hl
    go_enter Try.func21, Try.ntmps21
    go_wp2
    clear hl1
    go_loopw [5] (fun i w' => ∃ k : Nat, k ≤ xs.length ∧ i = .int .i64 k ∧ Hid (xs.take k = ys.take k) ∧ Drew w w') (fun i _ => xs.length - (intOf i).toNat)
    case atStart => exact ⟨0, by omega, rfl, rfl, .refl _⟩
    case round =>
      obtain ⟨k, hk, rfl, Heq, m, rfl⟩ := hrel
      by_cases hlt : k < xs.length
      · have hlt' : k < ys.length := by have := Hl.out; omega
        obtain ⟨b, off, rfl, hb, hc⟩ := HA.out (by omega)
        obtain ⟨b', off', rfl, hb', hc'⟩ := HA'.out (by omega)
        have e0 : w.cell? ⟨b, off + k, none⟩ = some (.string (B xs[k])) := by have := hc k _ (List.getElem?_eq_getElem hlt) 0 _ rfl; simpa using this
        have e1 : w.cell? ⟨b', off' + k, none⟩ = some (.string (B ys[k])) := by have := hc' k _ (List.getElem?_eq_getElem hlt') 0 _ rfl; simpa using this
        clear hc hc'
        have ht1 : xs.take (k + 1) = xs.take k ++ [xs[k]] := by rw [List.take_succ_eq_append_getElem hlt]
        have ht2 : ys.take (k + 1) = ys.take k ++ [ys[k]] := by rw [List.take_succ_eq_append_getElem hlt']
        have HT := Lib.hid (And.intro ht1 ht2)
        clear ht1 ht2
        have hi0 : (0 : Int) ≤ (k : Int) := by omega
        have hi1 : (k : Int) < (xs.length : Int) := by omega
        have hi2 : (k : Int) < (ys.length : Int) := by omega
        by_cases hx : xs[k] = ys[k]
        · have Hx := Lib.hid hx
          have hx' : (xs[k] == ys[k]) = true := by simpa using hx
          clear hx
          go_wp2
          go_quiet (fail)
          go_wp2
          go_roundw
          case rel => exact ⟨k + 1, by omega, by go_num, by have h := HT.out; show _ = _; rw [h.1, h.2, Heq.out, Hx.out], m + nq, rfl⟩
          case measure => simp [intOf]; omega
        · have hx' : (xs[k] == ys[k]) = false := by simpa using hx
          have Hx := Lib.hid hx
          clear hx
          go_wp2
          go_quiet (fail)
          go_wp2
          go_ret
          refine ⟨?_, by (repeat (first | exact Below.refl _ _ | assumption | with_reducible refine below_alloc ?_ _ | with_reducible refine below_grow ?_ _ | with_reducible refine below_drewN ?_ _ | with_reducible refine below_drew ?_ | with_reducible refine below_setCell ?_ (by first | (dsimp only; omega) | (simp; done) | (simp; omega)) _))⟩
          have : (xs == ys) = false := by
            rw [beq_eq_false_iff_ne]
            intro e
            subst e
            exact Hx.out rfl
          rw [this]; rfl
      · have hk' : k = xs.length := by omega
        have HK := Lib.hid hk'
        clear hk'
        go_wp2
        go_ret
        refine ⟨?_, by (repeat (first | exact Below.refl _ _ | assumption | with_reducible refine below_alloc ?_ _ | with_reducible refine below_grow ?_ _ | with_reducible refine below_drewN ?_ _ | with_reducible refine below_drew ?_ | with_reducible refine below_setCell ?_ (by first | (dsimp only; omega) | (simp; done) | (simp; omega)) _))⟩
        have h1 := Heq.out
        rw [HK.out, List.take_length, Hl.out, List.take_length] at h1
        have : (xs == ys) = true := by rw [h1]; simp
        rw [this]; rfl
  · have hl1 : ((xs.length : Int) != (ys.length : Int)) = true := by simp; omega
    have : (xs == ys) = false := by
      rw [beq_eq_false_iff_ne]
      intro e
      exact hl (by rw [e])
    rw [this]
    clear hl this
    go_enter Try.func21, Try.ntmps21
    go_wp2
    go_ret
    exact ⟨rfl, by (repeat (first | exact Below.refl _ _ | assumption | with_reducible refine below_alloc ?_ _ | with_reducible refine below_grow ?_ _ | with_reducible refine below_drewN ?_ _ | with_reducible refine below_drew ?_ | with_reducible refine below_setCell ?_ (by first | (dsimp only; omega) | (simp; done) | (simp; omega)) _))⟩
end Go.Proofs.Ytkinjjgaecbogaa
