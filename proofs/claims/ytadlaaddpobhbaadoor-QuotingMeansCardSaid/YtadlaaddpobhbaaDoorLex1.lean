/-
  The walks of layer 5's reference (oper), and of a part of layer 9's (token): operators, blanks. Conditions: texts of at most 2^29 bytes.
-/
import Derived.Test.YtadlaaddpobhbaaDoorModA
namespace Go.Proofs.YtadlaaddpobhbaaDoor.Lx
set_option linter.unusedSimpArgs false
set_option linter.unusedVariables false
open Go.ChangeShapes Go.WideShapes Go.Deep Go.RowKit Cls
set_option maxRecDepth 100000
def allOps : List UInt8 := [38, 38, 32, 124, 124, 32, 59, 59, 32, 60, 60, 32, 60, 60, 45, 62, 62, 32, 60, 38, 32, 62, 38, 32, 60, 62, 32, 62, 124, 32, 60, 32, 32, 62, 32, 32, 38, 32, 32, 59, 32, 32, 124, 32, 32, 40, 32, 32, 41, 32, 32]
/-- A text without the blanks at its end. -/
def rtrim (l : List UInt8) : List UInt8 := (l.reverse.dropWhile (· == 32)).reverse
theorem rtrim_snoc (l : List UInt8) : rtrim (l ++ [32]) = rtrim l := by simp [rtrim]
theorem rtrim_no (l : List UInt8) (c : UInt8) (h : c ≠ 32) : rtrim (l ++ [c]) = l ++ [c] := by
  have : (c == 32) = false := by simpa using h
  simp [rtrim, List.dropWhile_cons, this]
theorem rtrim_nil : rtrim [] = [] := rfl
def opT (n : Nat) : List UInt8 := if n = 0 then [] else rtrim ((allOps.take (3 * n)).drop (3 * (n - 1)))
theorem list_last (l : List UInt8) : l = [] ∨ ∃ l' c, l = l' ++ [c] := by
  rcases List.eq_nil_or_concat l with h | ⟨l', c, h⟩
  · exact .inl h
  · exact .inr ⟨l', c, by simpa using h⟩
set_option maxHeartbeats 1000000 in
theorem opText_any (n : Nat) (hn : n ≤ 17) (w : World) : Calls Tryd.prog 49 #[.int .i64 n] w fun e w' => e = .returned (.string (B (opT n))) ∧ w = w' := by
  by_cases h0 : n = 0
  · subst h0
    go_enter Tryd.func49, Tryd.ntmps49
    go_wp2
    go_ret
    exact ⟨rfl, rfl⟩
  have hT := Lib.hid (show opT n = rtrim ((allOps.take (3 * n)).drop (3 * (n - 1))) by unfold opT; rw [if_neg h0])
  obtain ⟨m, hm⟩ : ∃ m, m = n - 1 := ⟨_, rfl⟩
  rw [← hm] at hT
  have l1 := no (show ¬ (n : Int) < 1 by omega)
  have l2 := no (show ¬ (17 : Int) < (n : Int) by omega)
  obtain ⟨i, hi⟩ : ∃ i, i = 3 * m := ⟨_, rfl⟩
  obtain ⟨j, hj⟩ : ∃ j, j = 3 * n := ⟨_, rfl⟩
  rw [← hi, ← hj] at hT
  have i1 : IntKind.i64.wrap ((n : Int) - 1) = (m : Int) := by rw [IntKind.wrap_i64]; omega
  have i2 : IntKind.i64.wrap ((3 : Int) * (n : Int)) = (j : Int) := by rw [IntKind.wrap_i64]; omega
  have i3 : IntKind.i64.wrap ((3 : Int) * (m : Int)) = (i : Int) := by rw [IntKind.wrap_i64]; omega
  have i4 : (0 : Int) ≤ (i : Int) := by omega
  have i5 : (i : Int) ≤ (j : Int) := by omega
  have i6 : (j : Int) ≤ 51 := by omega
  have i7 : i ≤ j := by omega
  have i8 : j ≤ 51 := by omega
  unfold allOps at hT
  clear hm hi hj h0
  go_enter Tryd.func49, Tryd.ntmps49
  go_wp2
  go_loopw [3] (fun t w' => ∃ l : List UInt8, t = .string (B l) ∧ l.length ≤ 60 ∧ w = w' ∧ Hid (opT n = rtrim l)) (fun t _ => match t with | .string b => b.size | _ => 0)
  case atStart => exact ⟨_, rfl, by simp; omega, rfl, hT.out⟩
  case round =>
    clear hT i1 i2 i3 i4 i5 i6 i7 i8 l1 l2
    obtain ⟨l, rfl, hl, rfl, HT⟩ := hrel
    rcases list_last l with rfl | ⟨l', c, hlc⟩
    · go_wp2
      go_ret
      exact ⟨by rw [HT.out]; rfl, rfl⟩
    · have hlen : l.length = l'.length + 1 := by rw [hlc]; simp
      have hget : ∀ h : l'.length < l.length, l[l'.length] = c := by subst hlc; intro h; simp
      have htk : l.take l'.length = l' := by rw [hlc]; simp
      by_cases hc : c = 32
      · have HT2 := Lib.hid (show opT n = rtrim l' by rw [HT.out, hlc, hc, rtrim_snoc])
        subst hc
        clear hlc HT
        go_wp2
        go_roundw
        case rel => exact ⟨l', rfl, by omega, by trivial, HT2.out⟩
        case measure => show (B l').size < (B l).size; rw [B_size, B_size]; omega
      · have HT2 := Lib.hid (show opT n = l by rw [HT.out, hlc, rtrim_no _ _ hc])
        have e1 := Pat.not_b (n := 32) rfl hc
        clear hlc HT hc
        go_wp2
        go_ret
        exact ⟨by rw [HT2.out]; rfl, rfl⟩
/-- The operator at the beginning of a text: of the first ones, the longest. -/
def opK (l : List UInt8) : Nat → Nat
  | 0 => 0
  | n + 1 => if (decide ((opT (n + 1)).length ≤ l.length) && (l.take (opT (n + 1)).length == opT (n + 1)) && decide ((opT (opK l n)).length < (opT (n + 1)).length)) = true then n + 1 else opK l n
def opL (l : List UInt8) : Nat := opK l 17
theorem opK_le (l : List UInt8) : ∀ n, opK l n ≤ n
  | 0 => Nat.le_refl _
  | n + 1 => by
    have := opK_le l n
    unfold opK
    split <;> omega
theorem opT_len (n : Nat) (hn : n ≤ 17) : (opT n).length ≤ 3 := by
  have h : ∀ n ∈ List.range 18, (opT n).length ≤ 3 := by decide +kernel
  exact h n (List.mem_range.2 (by omega))
set_option maxHeartbeats 2000000 in
theorem opAt_any (s : List UInt8) (a : Nat) (w : World) (hs : s.length ≤ 536870912) (ha : a ≤ s.length) : Calls Tryd.prog 48 #[.string (B s), .int .i64 a] w fun e w' => e = .returned (.int .i64 (opL (s.drop a))) ∧ w = w' := by
  have HT := Lib.hid fun n (hn : n ≤ 17) w => opText_any n hn w
  go_enter Tryd.func48, Tryd.ntmps48
  go_wp2
  go_loopw [5, 6, 7] (fun b i _ w' => ∃ n : Nat, 1 ≤ n ∧ n ≤ 18 ∧ i = .int .i64 n ∧ b = .int .i64 (opK (s.drop a) (n - 1)) ∧ w = w') (fun _ i _ _ => 18 - (intOf i).toNat)
  case atStart => exact ⟨1, by omega, by omega, rfl, rfl, rfl⟩
  case round =>
    obtain ⟨n, hn1, hn2, rfl, rfl, rfl⟩ := hrel
    obtain ⟨m, hm⟩ : ∃ m, m = n - 1 := ⟨_, rfl⟩
    rw [← hm]
    by_cases hn17 : n ≤ 17
    · have hb := opK_le (s.drop a) m
      have HT1 := Lib.hid (HT.out n hn17)
      have HT2 := Lib.hid (HT.out (opK (s.drop a) m) (by omega))
      have l1 := opT_len n hn17
      have l2 := opT_len (opK (s.drop a) m) (by omega)
      have hk : opK (s.drop a) n = if (decide ((opT n).length ≤ s.length - a) && ((s.take (a + (opT n).length)).drop a == opT n) && decide ((opT (opK (s.drop a) m)).length < (opT n).length)) = true then n else opK (s.drop a) m := by
        obtain rfl : n = m + 1 := by omega
        conv => lhs; unfold opK
        rw [List.length_drop, List.drop_take, Nat.add_sub_cancel_left]
      have HK := Lib.hid hk
      clear hk hm
      generalize opK (s.drop a) m = best at *
      generalize opT best = tb at *
      generalize opT n = t at *
      have a0 : (0 : Int) ≤ (a : Int) := by omega
      have a1 : IntKind.i64.wrap ((s.length : Int) - (a : Int)) = ((s.length - a : Nat) : Int) := by rw [IntKind.wrap_i64]; omega
      have a2 : IntKind.i64.wrap ((a : Int) + (t.length : Int)) = ((a + t.length : Nat) : Int) := by rw [IntKind.wrap_i64]; omega
      have g1 : ∀ x, x = (if (decide (t.length ≤ s.length - a) && ((s.take (a + t.length)).drop a == t) && decide (tb.length < t.length)) = true then n else best) → Value.int .i64 (x : Nat) = .int .i64 ((opK (s.drop a) (n + 1 - 1) : Nat) : Int) := fun x hx => by rw [hx, Nat.add_sub_cancel, ← HK.out]
      have G1 := Lib.hid g1
      clear g1 HK
      by_cases hle : t.length ≤ s.length - a
      · have d1 : decide (t.length ≤ s.length - a) = true := by simpa using hle
        have a3 : (a : Int) ≤ ((a + t.length : Nat) : Int) := by omega
        have a4 : ((a + t.length : Nat) : Int) ≤ (s.length : Int) := by omega
        have a5 : a + t.length ≤ s.length := by omega
        cases d2 : ((s.take (a + t.length)).drop a == t) with
        | true =>
          cases d3 : decide (tb.length < t.length) with
          | true =>
            have G2 := Lib.hid (G1.out n (by rw [d1, d2, d3]; rfl))
            clear G1 hle d1
            go_wp2_with (first | (go_at_call 49; (with_reducible refine (HT1.out _).mono ?_); rintro e w' ⟨rfl, rfl⟩) | (go_at_call 49; (with_reducible refine (HT2.out _).mono ?_); rintro e w' ⟨rfl, rfl⟩))
            go_roundw
            case rel => exact ⟨n + 1, by omega, by omega, by go_num, G2.out, by trivial⟩
            case measure => simp [intOf]; omega
          | false =>
            have G2 := Lib.hid (G1.out best (by rw [d1, d2, d3]; rfl))
            clear G1 hle d1
            go_wp2_with (first | (go_at_call 49; (with_reducible refine (HT1.out _).mono ?_); rintro e w' ⟨rfl, rfl⟩) | (go_at_call 49; (with_reducible refine (HT2.out _).mono ?_); rintro e w' ⟨rfl, rfl⟩))
            go_roundw
            case rel => exact ⟨n + 1, by omega, by omega, by go_num, G2.out, by trivial⟩
            case measure => simp [intOf]; omega
        | false =>
          have G2 := Lib.hid (G1.out best (by rw [d1, d2]; rfl))
          clear G1 hle d1
          go_wp2_with (first | (go_at_call 49; (with_reducible refine (HT1.out _).mono ?_); rintro e w' ⟨rfl, rfl⟩) | (go_at_call 49; (with_reducible refine (HT2.out _).mono ?_); rintro e w' ⟨rfl, rfl⟩))
          go_roundw
          case rel => exact ⟨n + 1, by omega, by omega, by go_num, G2.out, by trivial⟩
          case measure => simp [intOf]; omega
      · have d1 : decide (t.length ≤ s.length - a) = false := by simpa using hle
        have G2 := Lib.hid (G1.out best (by rw [d1]; rfl))
        clear G1 hle
        go_wp2_with (first | (go_at_call 49; (with_reducible refine (HT1.out _).mono ?_); rintro e w' ⟨rfl, rfl⟩) | (go_at_call 49; (with_reducible refine (HT2.out _).mono ?_); rintro e w' ⟨rfl, rfl⟩))
        go_roundw
        case rel => exact ⟨n + 1, by omega, by omega, by go_num, G2.out, by trivial⟩
        case measure => simp [intOf]; omega
    · have hn18 : n = 18 := by omega
      subst hn18
      subst hm
      clear hn17
      go_wp2
      go_ret
      exact ⟨rfl, rfl⟩
end Go.Proofs.YtadlaaddpobhbaaDoor.Lx
