/-
  The walks of layer 3 (lines): strings.Count of newlines, slices.Clone of numbers, and plain laws of Apply. Conditions: texts of at most 2^32 bytes.
-/
import Derived.Test.YtkinjjgaecbogaaLines6
import Derived.Lib.Bytealg
import Derived.Shelf.Lays
namespace Go.Proofs.Ytkinjjgaecbogaa
open Go.ChangeShapes Go.WideShapes Go.Deep Go.RowKit
set_option maxRecDepth 100000
theorem nls_count (s : List UInt8) (f : Int) : s.count 10 = (nls s f).length := by
  induction s generalizing f with
  | nil => simp [nls]
  | cons c r ih =>
    simp only [nls, List.count_cons]
    rw [ih (f + 1)]
    by_cases h : c = 10
    · simp [h]
    · simp [h]
theorem nls_shift (s : List UInt8) (f d : Int) : nls s (f + d) = (nls s f).map (· + d) := by
  induction s generalizing f with
  | nil => simp [nls]
  | cons c r ih =>
    simp only [nls]
    have e : f + d + 1 = f + 1 + d := by omega
    rw [e]
    split <;> simp [ih]
theorem countNl_any (s : List UInt8) (w : World) : Calls Try.prog 81 #[.string (B s), .string ⟨#[10]⟩] w fun e w' => e = .returned (.int .i64 ((nls s 0).length : Int)) ∧ w = w' := by
  have HC := Lib.hid (nls_count s 0)
  go_enter Try.func81, Try.ntmps81
  go_wp2
  rw [run_callFunc_extern Try.func100 (by kernel_rfl) (by kernel_rfl) (by kernel_rfl) (e := Extern.BytealgCount.count) (by kernel_rfl), Lib.run_countString]
  simp only [Result.andThen]
  rw [Oper.upon_value]
  go_wp2
  go_ret
  refine ⟨ret_i64 ?_, rfl⟩
  unfold Lib.countByte
  rw [B_data]
  have := HC.out
  omega
def CloneIPost (xs : List Int) (u : Value) (w : World) (e : Ending) (w' : World) : Prop :=
  ∃ v, e = .returned v ∧ Own w' w.heap.size 1 v xs.length (xs.flatMap intC) ∧ Below w.heap.size w w' ∧ (v.ownBlock = u.ownBlock ∨ ∀ k, v.ownBlock = some k → w.heap.size ≤ k)
theorem clone_int (xs : List Int) (v : Value) (w : World) (h : Sl w intC 1 v xs) (hl : xs.length ≤ 1099511627776) :
    Calls Try.prog 82 #[v] w (CloneIPost xs v w) := by
  obtain ⟨i0, hi0, hz00, hz01, hz02⟩ := info_parts info_int
  have hs := h.src intC_len
  obtain ⟨A, c, rfl, hc1, hc2, hn, hA⟩ := h
  cases A with
  | none =>
    have h0 := hn rfl
    have h1 : xs.length = 0 := by omega
    obtain rfl := List.eq_nil_of_length_eq_zero h1
    subst h0
    have hnil := @Lib.run_eql_slice_nil Try.prog
    go_enter Try.func82, Try.ntmps82
    go_wp2
    go_ret
    exact ⟨_, rfl, Own.nil _ _ _, Below.refl _ _, .inl rfl⟩
  | some a =>
    have Hs := Lib.hid hs
    clear hs hn hA
    have hnil := fun w => Lib.run_eql_slice_nil (P := Try.prog) w 129 3 (some a) xs.length c 0 0 Try.underlying129
    go_enter Try.func82, Try.ntmps82
    go_wp2_with (at_builtin; refine wpList_append_src _ rfl (.tmp 5) (.tmp 6) _ rfl w.heap.size 3 i0 _ 1 8 Try.underlying129 hi0 hz00 hz01 hz02 rfl (by decide) _ 0 [] rfl (Own.none_ _ _ _ _ _ (by simp)) _ xs.length (xs.flatMap intC) rfl (by rw [intC_flat, Nat.mul_one]) (Hs.out.below (by (repeat (first | exact Below.refl _ _ | assumption | with_reducible refine below_alloc ?_ _ | with_reducible refine below_grow ?_ _ | with_reducible refine below_drewN ?_ _ | with_reducible refine below_drew ?_ | with_reducible refine below_setCell ?_ (by first | (dsimp only; omega) | (simp; done) | (simp; omega)) _)))) intC_one (by unfold maxLen; omega) (by omega) (by first | (simp; done) | omega | (simp; omega)) ?_; intro v1 w1 hown1 hg1 hat1 hty1; have HTY1 := Lib.hid hty1; clear hty1)
    go_ret
    exact ⟨v1, rfl, by simpa using hown1, below_keeps (by (repeat (first | exact Below.refl _ _ | assumption | with_reducible refine below_alloc ?_ _ | with_reducible refine below_grow ?_ _ | with_reducible refine below_drewN ?_ _ | with_reducible refine below_drew ?_ | with_reducible refine below_setCell ?_ (by first | (dsimp only; omega) | (simp; done) | (simp; omega)) _))) hg1 (fun k hk => hk.2), .inr fun k hk => by
      rcases hat1 with e | e
      · rw [e] at hk
        have h2 : some w.heap.size = some k := hk
        cases h2; exact Nat.le_refl _
      · have := e k hk; simp at this; omega⟩
theorem Own.preI {w : World} {b0 n c : Nat} {A : Option Addr} {es : List Int} (h : Own w b0 1 (.slice A n c) n (es.flatMap intC)) (hn : n = es.length) (k : Nat) (hk : k ≤ n) : Sl w intC 1 (.slice A k c) (es.take k) := by
  have hs : Sl w intC 1 (.slice A n c) es := h.sl intC_len hn.symm
  obtain ⟨A', c', e, h1, h2, h3, h4⟩ := hs
  simp only [Value.slice.injEq] at e
  obtain ⟨rfl, _, rfl⟩ := e
  refine ⟨A, c, by rw [List.length_take, Nat.min_eq_left (by omega)], by rw [List.length_take]; omega, h2, h3, fun h => ?_⟩
  obtain ⟨b, off, e, hlt, hc⟩ := h4 (by rw [List.length_take] at h; omega)
  refine ⟨b, off, e, hlt, fun j x hx => hc j x ?_⟩
  rw [List.getElem?_take] at hx
  split at hx
  · exact hx
  · cases hx
/-- The newlines behind an edit. -/
theorem nls_edit (s del ins : List UInt8) (p : Nat) (hp : p + del.length ≤ s.length) :
    nls (s.take p ++ ins ++ s.drop (p + del.length)) 0 = (nls s 0).take (cntLt (nls s 0) p) ++ nls ins p ++ ((nls s 0).drop (cntLt (nls s 0) (p + del.length : Nat))).map (· + ((ins.length : Int) - del.length)) := by
  have e : ∀ k, k ≤ s.length → nls s 0 = nls (s.take k) 0 ++ nls (s.drop k) k := by
    intro k hk
    have := nls_append (s.take k) (s.drop k) 0
    rw [List.take_append_drop, List.length_take, Nat.min_eq_left hk, Int.zero_add] at this
    exact this
  rw [(cntLt_take s p (by omega)).1, (cntLt_take s (p + del.length) hp).1, nls_append, nls_append]
  congr 1
  · congr 1
    · rw [e p (by omega), List.take_left]
    · rw [List.length_take, Nat.min_eq_left (by omega), Int.zero_add]
  · have h2 : (nls s 0).drop (nls (s.take (p + del.length)) 0).length = nls (s.drop (p + del.length)) (p + del.length : Nat) := by
      conv => lhs; rw [e (p + del.length) hp]
      rw [List.drop_left]
    rw [h2, ← nls_shift]
    congr 1
    rw [List.length_append, List.length_take, Nat.min_eq_left (by omega)]
    omega
theorem nls_between (s del : List UInt8) (p : Nat) (hp : p + del.length ≤ s.length) (hd : (s.drop p).take del.length = del) : (cntLt (nls s 0) (p + del.length : Nat) : Int) - cntLt (nls s 0) p = (nls del 0).length := by
  rw [(cntLt_take s p (by omega)).1, (cntLt_take s (p + del.length) hp).1]
  have : s.take (p + del.length) = s.take p ++ del := by rw [List.take_add, hd]
  rw [this, nls_append, List.length_append]
  have := nls_count del 0
  have := nls_count del (0 + ((s.take p).length : Int))
  omega
end Go.Proofs.Ytkinjjgaecbogaa
