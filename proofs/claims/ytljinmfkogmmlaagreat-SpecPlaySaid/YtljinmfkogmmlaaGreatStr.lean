/-
  Slices of texts: slices.Clone, and whether two are the same. Conditions: at most 2^40 texts.
-/
import Derived.Test.YtljinmfkogmmlaaGreatProg
import Derived.Test.YtljinmfkogmmlaaGreatOwn
import Derived.Test.YtljinmfkogmmlaaGreatTail
namespace Go.Proofs.YtljinmfkogmmlaaGreat
open Go.ChangeShapes Go.WideShapes Go.Deep Go.RowKit
/-- The cells of a text. -/
def strC (s : List UInt8) : List Value := [.string (B s)]
theorem strC_len {xs : List (List UInt8)} : ∀ x ∈ xs, (strC x).length = 1 := fun _ _ => rfl
theorem strC_flat (xs : List (List UInt8)) : (xs.flatMap strC).length = xs.length := by induction xs <;> simp_all [strC]
theorem strC_one {xs : List (List UInt8)} : ∀ u ∈ xs.flatMap strC, u.oneCell' = true := by
  intro u hu
  simp [strC] at hu
  obtain ⟨a, _, rfl⟩ := hu
  rfl
theorem flat_get (ys : List (List UInt8)) (j : Nat) : (ys.flatMap strC)[j]? = (ys[j]?).map fun y => Value.string (B y) := by
  induction ys generalizing j with
  | nil => simp
  | cons y ys ih =>
    cases j with
    | zero => simp [strC]
    | succ j => simpa [strC] using ih j
theorem info_str : (Tryz.prog.info? 9).map (fun i => (i.zero, i.size, i.bytes)) = some (some (.string ByteArray.empty), 1, 16) := by kernel_rfl
def ClonePost (xs : List (List UInt8)) (w : World) (e : Ending) (w' : World) : Prop :=
  ∃ v, e = .returned v ∧ Own w' w.heap.size 1 v xs.length (xs.flatMap strC) ∧ Below w.heap.size w w'
set_option maxRecDepth 100000 in
theorem clone_str (xs : List (List UInt8)) (v : Value) (w : World) (h : Sl w strC 1 v xs) (hl : xs.length ≤ 1099511627776) :
    Calls Tryz.prog 60 #[v] w (ClonePost xs w) := by
  obtain ⟨i0, hi0, hz00, hz01, hz02⟩ := info_parts info_str
  have hs := h.src strC_len
  obtain ⟨A, c, rfl, hc1, hc2, hn, hA⟩ := h
  cases A with
  | none =>
    have h0 := hn rfl
    have h1 : xs.length = 0 := by omega
    obtain rfl := List.eq_nil_of_length_eq_zero h1
    subst h0
    have hnil := @Lib.run_eql_slice_nil Tryz.prog
    go_enter Tryz.func60, Tryz.ntmps60
    go_wp2
    go_ret
    exact ⟨_, rfl, Own.nil _ _ _, Below.refl _ _⟩
  | some a =>
    have Hs := Lib.hid hs
    clear hs hn hA
    have hnil := fun w => Lib.run_eql_slice_nil (P := Tryz.prog) w 24 9 (some a) xs.length c 0 0 Tryz.underlying24
    go_enter Tryz.func60, Tryz.ntmps60
    go_wp2_with (at_builtin; refine wpList_append_src _ rfl (.tmp 5) (.tmp 6) _ rfl w.heap.size 9 i0 _ 1 16 Tryz.underlying24 hi0 hz00 hz01 hz02 rfl (by decide) _ 0 [] rfl (Own.none_ _ _ _ _ _ (by simp)) _ xs.length (xs.flatMap strC) rfl (by rw [strC_flat, Nat.mul_one]) (Hs.out.below (by (repeat (first | exact Below.refl _ _ | assumption | with_reducible refine below_alloc ?_ _ | with_reducible refine below_grow ?_ _ | with_reducible refine below_drewN ?_ _ | with_reducible refine below_drew ?_ | with_reducible refine below_setCell ?_ (by first | (dsimp only; omega) | (simp; done) | (simp; omega)) _)))) strC_one (by unfold maxLen; omega) (by omega) (by first | (simp; done) | omega | (simp; omega)) ?_; intro v1 w1 hown1 hg1 hat1 hty1; have HTY1 := Lib.hid hty1; clear hty1)
    go_ret
    exact ⟨v1, rfl, by simpa using hown1, below_keeps (by (repeat (first | exact Below.refl _ _ | assumption | with_reducible refine below_alloc ?_ _ | with_reducible refine below_grow ?_ _ | with_reducible refine below_drewN ?_ _ | with_reducible refine below_drew ?_ | with_reducible refine below_setCell ?_ (by first | (dsimp only; omega) | (simp; done) | (simp; omega)) _))) hg1 (fun k hk => hk.2)⟩
end Go.Proofs.YtljinmfkogmmlaaGreat
