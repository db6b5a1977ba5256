/-
  The walks of layer 3 (lines): Of, awake, right. Conditions: texts of at most 2^32 bytes.
-/
import Derived.Test.YtkinjjgaecbogaaLines5
namespace Go.Proofs.Ytkinjjgaecbogaa
open Go.ChangeShapes Go.WideShapes Go.Deep Go.RowKit
set_option maxRecDepth 100000
def OfPost (s : List UInt8) (line : Int) (w : World) (e : Ending) (w' : World) : Prop :=
  e = .returned (if line < 0 ∨ ((nls s 0).length : Int) < line then .tuple #[.string (B []), .int .i64 1] else .tuple #[.string (B ((s.take (lastOf (nls s 0) s.length line.toNat).toNat).drop (firstOf (nls s 0) line.toNat).toNat)), .int .i64 0]) ∧ Below w.heap.size w w'
set_option maxHeartbeats 1000000 in
theorem linesOf_any (s : List UInt8) (line : Int) (w : World) (hs : s.length ≤ 4294967296) : Calls Try.prog 44 #[.string (B s), .int .i64 line] w (OfPost s line w) := by
  have hl : (nls s 0).length ≤ 1099511627776 := by have := nls_len s 0; omega
  have HN := Lib.hid (newIdx_any s w hs)
  by_cases hc : line < 0 ∨ ((nls s 0).length : Int) < line
  · have hE : spanV (nls s 0) s.length line = (0, 0, 1) := by unfold spanV; rw [if_pos hc]
    have HS := Lib.hid fun w b0 xb lv (h : IdxAt w b0 xb lv s.length (nls s 0)) => show Calls Try.prog 43 #[.pointer (some ⟨xb, 0, none⟩), .int .i64 line] w fun e w' => e = .returned (.tuple #[.int .i64 0, .int .i64 0, .int .i64 1]) ∧ w = w' from
      (span_any w b0 xb s.length lv (nls s 0) line h hl (by omega)).mono fun e w' k => by rw [hE] at k; exact k
    have HC := Lib.hid hc
    clear hc hE
    go_enter Try.func44, Try.ntmps44
    go_wp2_with (first | (go_at_call 37; refine HN.out.mono ?_; rintro e w1 ⟨xb, lv, rfl, hx, hb⟩; have HX := Lib.hid hx; have HB := Lib.hid hb; clear hx hb) | (go_at_call 43; refine (HS.out _ _ _ _ HX.out).mono ?_; rintro e w2 ⟨rfl, rfl⟩))
    go_ret2
    exact ⟨by rw [if_pos HC.out]; rfl, HB.out⟩
  · obtain ⟨k, rfl⟩ := Int.eq_ofNat_of_zero_le (show 0 ≤ line by omega)
    have hk : k ≤ (nls s 0).length := by omega
    have hE : spanV (nls s 0) s.length k = (firstOf (nls s 0) k, lastOf (nls s 0) s.length k, 0) := by unfold spanV; rw [if_neg hc, Int.toNat_natCast]
    obtain ⟨_, b1, b2, b3⟩ := linesOf_get s k hk
    have HS := Lib.hid fun w b0 xb lv (h : IdxAt w b0 xb lv s.length (nls s 0)) => show Calls Try.prog 43 #[.pointer (some ⟨xb, 0, none⟩), .int .i64 k] w fun e w' => e = .returned (.tuple #[.int .i64 (firstOf (nls s 0) k), .int .i64 (lastOf (nls s 0) s.length k), .int .i64 0]) ∧ w = w' from
      (span_any w b0 xb s.length lv (nls s 0) k h hl (by omega)).mono fun e w' k => by rw [hE] at k; exact k
    have HC := Lib.hid hc
    clear hc hE
    unfold OfPost
    rw [if_neg HC.out, Int.toNat_natCast]
    generalize firstOf (nls s 0) k = a at *
    generalize lastOf (nls s 0) s.length k = b at *
    obtain ⟨a, rfl⟩ := Int.eq_ofNat_of_zero_le b1
    obtain ⟨b, rfl⟩ := Int.eq_ofNat_of_zero_le (show 0 ≤ b by omega)
    go_enter Try.func44, Try.ntmps44
    go_wp2_with (first | (go_at_call 37; refine HN.out.mono ?_; rintro e w1 ⟨xb, lv, rfl, hx, hb⟩; have HX := Lib.hid hx; have HB := Lib.hid hb; clear hx hb) | (go_at_call 43; refine (HS.out _ _ _ _ HX.out).mono ?_; rintro e w2 ⟨rfl, rfl⟩))
    go_ret2
    exact ⟨rfl, HB.out⟩
theorem awake03_any (w : World) : Calls Try.prog 36 #[] w fun e w' => e = .returned (.bool true) ∧ Below w.heap.size w w' := by
  have z1 : nls [97, 10, 98] 0 = [1] := by decide
  have HN := Lib.hid (newIdx_any [97, 10, 98] w (by decide))
  have Z1 := Lib.hid z1
  have hw : (if (2 : Int) < 0 ∨ (([97, 10, 98] : List UInt8).length : Int) < 2 then Value.tuple #[.int .i64 0, .int .i64 0, .int .i64 1] else .tuple #[.int .i64 (cntLt [1] 2), .int .i64 (2 - firstOf [1] (cntLt [1] 2)), .int .i64 0]) = .tuple #[.int .i64 1, .int .i64 0, .int .i64 0] := by rw [if_neg (by decide)]; rfl
  have HW := Lib.hid fun w b0 xb lv (h : IdxAt w b0 xb lv ([97, 10, 98] : List UInt8).length [1]) => show Calls Try.prog 45 #[.pointer (some ⟨xb, 0, none⟩), .int .i64 2] w fun e w' => e = .returned (.tuple #[.int .i64 1, .int .i64 0, .int .i64 0]) ∧ w = w' from
      (where_any w b0 xb _ lv [1] 2 h (by decide) (by decide)).mono fun e w' k => by rw [hw] at k; exact k
  clear hw z1
  go_enter Try.func36, Try.ntmps36
  go_wp2_with (first | (go_at_call 37; refine HN.out.mono ?_; rintro e w1 ⟨xb, lv, rfl, hx, hb⟩; rw [Z1.out] at hx; have HX := Lib.hid hx; have HB := Lib.hid hb; clear hx hb) | (go_at_call 45; refine (HW.out _ _ _ _ HX.out).mono ?_; rintro e w2 ⟨rfl, rfl⟩) | (go_at_call 74; refine (count_any _ _ _ _ _ _ HX.out (by decide)).mono ?_; rintro e w2 ⟨rfl, rfl⟩))
  go_ret
  exact ⟨rfl, HB.out⟩
set_option maxHeartbeats 2000000 in
theorem right_any (w : World) (b0 xb : Nat) (lv : Value) (s : List UInt8) (h : IdxAt w b0 xb lv s.length (nls s 0)) (hs : s.length ≤ 4294967295) :
    Calls Try.prog 41 #[.pointer (some ⟨xb, 0, none⟩), .string (B s)] w fun e w' => e = .returned (.int .i64 0) ∧ Below w.heap.size w w' := by
  obtain ⟨n, hn⟩ : ∃ n, n = (nls s 0).length := ⟨_, rfl⟩
  have hnl : n ≤ 4294967295 := by have := nls_len s 0; omega
  have HN := Lib.hid hn
  have H := Lib.hid h
  clear h hn
  go_enter Try.func41, Try.ntmps41
  go_wp2_with (first
    | (go_at_call 38; refine (refLines_any s _ (by omega)).mono ?_; rintro e w1 ⟨v, rfl, ho, hb⟩; rw [linesOf_len, ← HN.out] at ho; obtain ⟨g, off, c, rfl, q1, q2, q3, q4⟩ := ho.form; have HO := Lib.hid ho; have HB := Lib.hid hb; have HX := Lib.hid (H.out.below hb); clear ho hb)
    | (go_at_call 74; refine (count_any _ _ _ _ _ _ HX.out (by have := HN.out; omega)).mono ?_; rintro e w2 ⟨rfl, rfl⟩; rw [← HN.out]))
  go_loop [6, 7, 8, 9] (fun i _ _ _ => ∃ k : Nat, k ≤ n + 1 ∧ i = .int .i64 k) (fun i _ _ _ => n + 1 - (intOf i).toNat)
  case atStart => exact ⟨0, by omega, rfl⟩
  case round =>
    obtain ⟨k, hk, rfl⟩ := hrel
    by_cases hlt : k < n + 1
    · obtain ⟨l, hl⟩ := get_some (xs := linesOf s) (k := k) (by rw [linesOf_len, ← HN.out]; exact hlt)
      obtain ⟨hl1, hl2⟩ := linesOf_lenOf s k l hl
      obtain ⟨_, b1, b2, b3⟩ := linesOf_get s k hl2
      obtain ⟨y, hy1, hy2, _⟩ := HO.out.cellOk k (by omega)
      rw [hl] at hy1
      cases hy1
      have hE : spanV (nls s 0) s.length k = (firstOf (nls s 0) k, lastOf (nls s 0) s.length k, 0) := by unfold spanV; rw [if_neg (by omega), Int.toNat_natCast]
      have HS := Lib.hid (show Calls Try.prog 43 #[.pointer (some ⟨xb, 0, none⟩), .int .i64 k] w1 fun e w' => e = .returned (.tuple #[.int .i64 (firstOf (nls s 0) k), .int .i64 (lastOf (nls s 0) s.length k), .int .i64 0]) ∧ w1 = w' from
        (span_any w1 b0 xb s.length lv (nls s 0) k HX.out (by have := HN.out; omega) (by omega)).mono fun e w' k => by rw [hE] at k; exact k)
      have HFi := Lib.hid (refFirst_any s k w1 hl2 (by omega))
      clear hl hE hl2
      generalize firstOf (nls s 0) k = a at *
      generalize lastOf (nls s 0) s.length k = b at *
      have hab : (b != a + (l.length : Int)) = false := by rw [bne_eq_false_iff_eq]; omega
      go_wp2_with (first | (go_at_call 43; refine (HS.out).mono ?_; rintro e w' ⟨rfl, rfl⟩) | (go_at_call 40; refine (HFi.out).mono ?_; rintro e w' ⟨rfl, rfl⟩))
      go_round
      case rel => exact ⟨k + 1, by omega, by go_num⟩
      case measure => simp [intOf]; omega
    · clear HO q1 q2 q3 q4
      go_wp2
      go_loop [10, 11, 12, 13, 14, 15] (fun i _ _ _ _ _ => ∃ k : Nat, k ≤ s.length + 1 ∧ i = .int .i64 k) (fun i _ _ _ _ _ => s.length + 1 - (intOf i).toNat)
      case atStart => exact ⟨0, by omega, rfl⟩
      case round =>
        obtain ⟨k, hk, rfl⟩ := hrel
        by_cases hlt : k < s.length + 1
        · obtain ⟨c1, c2⟩ := cntLt_take s k (by omega)
          have hE : (if (k : Int) < 0 ∨ (s.length : Int) < (k : Int) then Value.tuple #[.int .i64 0, .int .i64 0, .int .i64 1] else .tuple #[.int .i64 (cntLt (nls s 0) k), .int .i64 ((k : Int) - firstOf (nls s 0) (cntLt (nls s 0) k)), .int .i64 0]) = .tuple #[.int .i64 ((nls (s.take k) 0).length : Int), .int .i64 ((k : Int) - tl (s.take k)), .int .i64 0] := by
            rw [if_neg (by omega), c1, c2]
          have HW := Lib.hid (show Calls Try.prog 45 #[.pointer (some ⟨xb, 0, none⟩), .int .i64 k] w1 fun e w' => e = .returned (.tuple #[.int .i64 ((nls (s.take k) 0).length : Int), .int .i64 ((k : Int) - tl (s.take k)), .int .i64 0]) ∧ w1 = w' from
            (where_any w1 b0 xb s.length lv (nls s 0) k HX.out (by have := HN.out; omega) (by omega)).mono fun e w' k => by rw [hE] at k; exact k)
          have HR := Lib.hid (refWhere_any s k w1 (by omega) (by omega))
          clear hE c1 c2
          generalize (nls (s.take k) 0).length = a at *
          generalize (k : Int) - tl (s.take k) = b at *
          go_wp2_with (first | (go_at_call 45; refine (HW.out).mono ?_; rintro e w' ⟨rfl, rfl⟩) | (go_at_call 77; refine (HR.out).mono ?_; rintro e w' ⟨rfl, rfl⟩))
          go_round
          case rel => exact ⟨k + 1, by omega, by go_num⟩
          case measure => simp [intOf]; omega
        · go_wp2
          go_ret
          exact ⟨rfl, HB.out⟩
end Go.Proofs.Ytkinjjgaecbogaa
