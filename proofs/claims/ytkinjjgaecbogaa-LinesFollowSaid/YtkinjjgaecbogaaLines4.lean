/-
  The walks of layer 3 (lines): New, At, Near, Of, and the references. Conditions: texts of at most 2^32 bytes.
-/
import Derived.Test.YtkinjjgaecbogaaLinesPlain
import Derived.Test.YtkinjjgaecbogaaStr
namespace Go.Proofs.Ytkinjjgaecbogaa
open Go.ChangeShapes Go.WideShapes Go.Deep Go.RowKit
set_option maxRecDepth 100000
def NewIdxPost (s : List UInt8) (w : World) (e : Ending) (w' : World) : Prop := ∃ xb lv, e = .returned (.pointer (some ⟨xb, 0, none⟩)) ∧ IdxAt w' w.heap.size xb lv s.length (nls s 0) ∧ Below w.heap.size w w'
theorem newIdx_any (s : List UInt8) (w : World) (hs : s.length ≤ 4294967296) : Calls Try.prog 37 #[.string (B s)] w (NewIdxPost s w) := by
  have HC := Lib.hid (collect_any 97 _ _ (nls s 0) _ (newlines_gives s 0 w (by omega) (by omega) (by omega)) (enters_of Try.func97 (by kernel_rfl) rfl) (fun k hk => by rcases hk with rfl | rfl <;> simp; omega) (by have := nls_len s 0; omega))
  go_enter Try.func37, Try.ntmps37
  go_wp2_with (first | (go_at_call 76; refine (newlines_any s 0 w).mono ?_; rintro e w1 ⟨rfl, rfl⟩) | (go_at_call 75; refine HC.out.mono ?_; rintro e w2 ⟨v, rfl, ho, hb⟩; obtain ⟨A, c, rfl, _⟩ := ho.form0; have HO := Lib.hid ho; have HB := Lib.hid hb; have hz := hb.size; clear ho hb))
  go_ret
  have hb2 : Below w.heap.size w w2 := below_then (below_alloc (below_alloc (Below.refl _ _) _) _) HB.out
  refine ⟨_, .slice A (nls s 0).length c, rfl, ⟨by simp, hb2.size, by go_simp, by go_simp, fun j => by simp [go_sem], ?_, ?_, nls_up s 0, fun e he => ?_⟩, below_alloc hb2 _⟩
  · exact (HO.out.mono (by simp; omega)).below (below_alloc (Below.refl _ _) _)
  · intro e
    have := HO.out.lt _ e
    omega
  · have := nls_bd s 0 e he; omega
/-- What At tells. -/
def atV (es : List Int) (n : Nat) (line col : Int) : Int × Int :=
  if (spanV es n line).2.2 ≠ 0 ∨ col < 0 ∨ (spanV es n line).2.1 - (spanV es n line).1 < col then (0, 1) else ((spanV es n line).1 + col, 0)
theorem spanV_bd {w : World} {b0 xb n : Nat} {lv : Value} {es : List Int} (h : IdxAt w b0 xb lv n es) (t : Int) : 0 ≤ (spanV es n t).1 ∧ (spanV es n t).1 ≤ n + 1 ∧ 0 ≤ (spanV es n t).2.1 ∧ (spanV es n t).2.1 ≤ n ∧ ((spanV es n t).2.2 = 0 ∨ (spanV es n t).2.2 = 1) := by
  unfold spanV
  split
  · simp; omega
  · have := firstOf_bd h t.toNat
    have : 0 ≤ lastOf es n t.toNat ∧ lastOf es n t.toNat ≤ n := by
      unfold lastOf
      split
      · omega
      · cases he : es[t.toNat]? with
        | none => simp
        | some e => have := h.lo e (List.mem_of_getElem? he); simp; omega
    simp; omega
set_option maxHeartbeats 1000000 in
theorem atIdx_any (w : World) (b0 xb n : Nat) (lv : Value) (es : List Int) (line col : Int) (h : IdxAt w b0 xb lv n es) (hl : es.length ≤ 1099511627776) (hn : n ≤ 1099511627776) :
    Calls Try.prog 42 #[.pointer (some ⟨xb, 0, none⟩), .int .i64 line, .int .i64 col] w fun e w' => e = .returned (.tuple #[.int .i64 (atV es n line col).1, .int .i64 (atV es n line col).2]) ∧ w = w' := by
  have HS := Lib.hid (span_any w b0 xb n lv es line h hl hn)
  have hb := spanV_bd h line
  clear h
  unfold atV
  generalize spanV es n line = q at *
  obtain ⟨a, b, z⟩ := q
  simp only at hb HS ⊢
  obtain ⟨b1, b2, b3, b4, b5⟩ := hb
  rcases b5 with rfl | rfl
  · by_cases h1 : col < 0
    · rw [if_pos (.inr (.inl h1))]
      go_enter Try.func42, Try.ntmps42
      go_wp2_with (go_at_call 43; refine (HS.out).mono ?_; rintro e w' ⟨rfl, rfl⟩)
      go_ret2
      exact ⟨rfl, rfl⟩
    by_cases h2 : b - a < col
    · rw [if_pos (.inr (.inr h2))]
      have h1' := no h1
      go_enter Try.func42, Try.ntmps42
      go_wp2_with (go_at_call 43; refine (HS.out).mono ?_; rintro e w' ⟨rfl, rfl⟩)
      go_ret2
      exact ⟨rfl, rfl⟩
    rw [if_neg (by simp; omega)]
    have h1' := no h1
    have h2' := no h2
    go_enter Try.func42, Try.ntmps42
    go_wp2_with (go_at_call 43; refine (HS.out).mono ?_; rintro e w' ⟨rfl, rfl⟩)
    go_ret2
    exact ⟨rfl, rfl⟩
  · rw [if_pos (.inl (by decide))]
    go_enter Try.func42, Try.ntmps42
    go_wp2_with (go_at_call 43; refine (HS.out).mono ?_; rintro e w' ⟨rfl, rfl⟩)
    go_ret2
    exact ⟨rfl, rfl⟩
/-- What Near tells. -/
def nearV (es : List Int) (n : Nat) (line col : Int) : Int :=
  (spanV es n (min (max line 0) es.length)).1 + min (max col 0) ((spanV es n (min (max line 0) es.length)).2.1 - (spanV es n (min (max line 0) es.length)).1)
theorem nearIdx_any (w : World) (b0 xb n : Nat) (lv : Value) (es : List Int) (line col : Int) (h : IdxAt w b0 xb lv n es) (hl : es.length ≤ 1099511627776) (hn : n ≤ 1099511627776) (hle : (spanV es n (min (max line 0) es.length)).1 ≤ (spanV es n (min (max line 0) es.length)).2.1)
    (hc0 : -9223372036854775808 ≤ col) (hc1 : col ≤ 9223372036854775807) (hl0 : -9223372036854775808 ≤ line) (hl1 : line ≤ 9223372036854775807) :
    Calls Try.prog 39 #[.pointer (some ⟨xb, 0, none⟩), .int .i64 line, .int .i64 col] w fun e w' => e = .returned (.int .i64 (nearV es n line col)) ∧ w = w' := by
  have HC := Lib.hid (count_any w b0 xb n lv es h hl)
  have HS0 := Lib.hid (span_any w b0 xb n lv es (min (max line 0) es.length) h hl hn)
  have hb := spanV_bd h (min (max line 0) es.length)
  clear h
  unfold nearV
  generalize spanV es n (min (max line 0) es.length) = q at *
  obtain ⟨m, hm⟩ : ∃ m : Int, m = min (max line 0) es.length := ⟨_, rfl⟩
  rw [← hm] at HS0
  obtain ⟨a, b, z⟩ := q
  simp only at hb HS0 hle ⊢
  obtain ⟨b1, b2, b3, b4, b5⟩ := hb
  have HM := Lib.hid hm
  clear hm
  have HS := Lib.hid fun (t : Int) (ht : t = m) => show Calls Try.prog 43 #[.pointer (some ⟨xb, 0, none⟩), .int .i64 t] w fun e w' => e = .returned (.tuple #[.int .i64 a, .int .i64 b, .int .i64 z]) ∧ w = w' from by rw [ht]; exact HS0.out
  go_enter Try.func39, Try.ntmps39
  go_wp2_with (first | (go_at_call 74; refine (HC.out).mono ?_; rintro e w' ⟨rfl, rfl⟩) | (go_at_call 43; refine (HS.out _ (by have := HM.out; omega)).mono ?_; rintro e w' ⟨rfl, rfl⟩))
  all_goals
    go_ret
    exact ⟨ret_i64 (by omega), rfl⟩
end Go.Proofs.Ytkinjjgaecbogaa
