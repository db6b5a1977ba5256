/-
  The walks of layer 17 (quoting), in part: what is risky, texts between double quotes. Conditions: texts of at most 2^30 bytes.
-/
import Derived.Test.YtadlaaddpobhbaaDoorQuoPlain2
import Derived.Test.YtadlaaddpobhbaaDoorBld
import Derived.Test.YtadlaaddpobhbaaDoorMaxL
namespace Go.Proofs.YtadlaaddpobhbaaDoor.Quo
open Go.ChangeShapes Go.WideShapes Go.Deep Go.RowKit Cls Bd Pat
set_option maxRecDepth 100000
theorem risky_any (s : List UInt8) (w : World) (hs : s.length ≤ 1073741824) : Calls Tryd.prog 43 #[.string (B s)] w fun e w' => e = .returned (.bool (riskB s)) ∧ w = w' := by
  have HR := Lib.hid fun w => reserved_any s w
  have HD := Lib.hid fun w => digits_any s 0 w hs (by omega)
  have hsp := span_all digitB s
  rw [List.drop_zero] at HD
  unfold riskB
  generalize spanN digitB s = n at *
  generalize resB s = r at *
  cases r with
  | true =>
    go_enter Tryd.func43, Tryd.ntmps43
    go_wp2_with (go_at_call 79; refine (HR.out _).mono ?_; rintro e w' ⟨rfl, rfl⟩)
    go_ret
    exact ⟨rfl, rfl⟩
  | false =>
    by_cases h0 : s = []
    · subst h0
      go_enter Tryd.func43, Tryd.ntmps43
      go_wp2_with (go_at_call 79; refine (HR.out _).mono ?_; rintro e w' ⟨rfl, rfl⟩)
      go_ret
      exact ⟨rfl, rfl⟩
    have h1 : (s != []) = true := by simpa using h0
    rw [h1]
    have hsI : ((n : Int) == (s.length : Int)) = s.all digitB := by
      rw [← hsp, Bool.eq_iff_iff, beq_iff_eq, beq_iff_eq]
      omega
    clear hsp
    generalize s.all digitB = a at *
    go_enter Tryd.func43, Tryd.ntmps43
    go_wp2_with (first | (go_at_call 79; refine (HR.out _).mono ?_; rintro e w' ⟨rfl, rfl⟩) | (go_at_call 80; refine (HD.out _).mono ?_; rintro e w' ⟨rfl, rfl⟩))
    go_ret
    exact ⟨Cls.ret_b (by simp [h0]), rfl⟩
set_option maxHeartbeats 2000000 in
theorem double_any (s : List UInt8) (w : World) (hs : s.length ≤ 1073741824) : Calls Tryd.prog 23 #[.string (B s)] w fun e w' => e = .returned (.string (B (dblL s))) ∧ Below w.heap.size w w' := by
  go_enter Tryd.func23, Tryd.ntmps23
  go_wp2_with (go_at_call 44; refine (wbyte_any 34 (Bld.new w w.heap.size) (by simp) (by simp)).mono ?_; rintro e w1 ⟨rfl, v1, h1, hk1⟩; have HB1 := Lib.hid h1; have hw1 := below_keeps (below_alloc (Below.refl w.heap.size w) _) hk1 (fun k hk => by omega); have HW1 := Lib.hid hw1; clear h1 hk1 hw1)
  go_loopw [4, 8] (fun _ i wr => ∃ (k : Nat) (v : Value), k ≤ s.length ∧ i = .int .i64 k ∧ Hid (Bld wr w.heap.size w.heap.size v (dblK s k)) ∧ Hid (Below w.heap.size w wr)) (fun _ i _ => s.length - (intOf i).toNat)
  case atStart => exact ⟨0, v1, by omega, rfl, HB1.out, HW1.out⟩
  case round =>
    clear HB1 HW1
    obtain ⟨k, v, hk, rfl, HB, HW⟩ := hrel
    have hsz := HW.out.size
    have hlen := dblK_len s k hk
    by_cases hlt : k < s.length
    · have hi0 : (0 : Int) ≤ (k : Int) := by omega
      have hi1 : (k : Int) < (s.length : Int) := by omega
      have HS := Lib.hid (dblK_step hlt)
      have HX := Lib.hid fun (W : World) (v : Value) (l : List UInt8) (h : Bld W w.heap.size w.heap.size v l) (hl : l.length + 1 ≤ 70368744177664) (hR : w.heap.size ≤ W.heap.size) => wbyte_any s[k] h hl hR
      have HY := Lib.hid fun (W : World) (v : Value) (l : List UInt8) (h : Bld W w.heap.size w.heap.size v l) (hl : l.length + 1 ≤ 70368744177664) (hR : w.heap.size ≤ W.heap.size) => wbyte_num 92 (n := 92) rfl h hl hR
      go_wp2_with (first
        | (go_at_call 44; (with_reducible refine (HY.out _ _ _ HB.out (by omega) hsz).mono ?_); rintro e w2 ⟨rfl, v2, h2, hk2⟩; have HB2 := Lib.hid h2; have hw2 := HW.out.trans (hk2.below hsz (fun k hk => by omega)); have HW2 := Lib.hid hw2; have hsz2 := hw2.size; clear h2 hk2 hw2 HY)
        | (go_at_call 44; (with_reducible refine (HX.out _ _ _ HB2.out (by rw [List.length_append]; simp; omega) hsz2).mono ?_); rintro e w3 ⟨rfl, v3, h3, hk3⟩; have HB3 := Lib.hid h3; have hw3 := HW2.out.trans (hk3.below hsz2 (fun k hk => by omega)); have HW3 := Lib.hid hw3; clear h3 hk3 hw3)
        | (go_at_call 44; (with_reducible refine (HX.out _ _ _ HB.out (by omega) hsz).mono ?_); rintro e w3 ⟨rfl, v3, h3, hk3⟩; have HB3 := Lib.hid h3; have hw3 := HW.out.trans (hk3.below hsz (fun k hk => by omega)); have HW3 := Lib.hid hw3; clear h3 hk3 hw3))
      all_goals
        go_roundw
        case rel => exact ⟨k + 1, _, by omega, by go_num, by first | (rw [HS.out, dblE_yes (by simp [dblI, *]), ← List.append_assoc]; exact HB3.out) | (rw [HS.out, dblE_no (by simp [dblI, *])]; exact HB3.out), HW3.out⟩
        case measure => simp [intOf]; omega
    · have hk' : k = s.length := by omega
      subst hk'
      rw [dblK_all] at HB
      have HST := Lib.hid (bstr_any HB.out (Nat.le_refl _) (Nat.le_refl _))
      clear hlt
      go_wp2_with (go_at_call 37; refine HST.out.mono ?_; rintro e w2 ⟨rfl, hb⟩; have HW2 := Lib.hid (HW.out.trans hb); clear hb)
      go_ret
      exact ⟨rfl, HW2.out⟩
end Go.Proofs.YtadlaaddpobhbaaDoor.Quo
