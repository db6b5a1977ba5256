/-
  The walks of the definition's layer 4 (class), on: how long a name is, a parameter. Conditions: texts of at most 2^30 bytes.
-/
import Derived.Test.YtfmecpnokefokaaGreatDoorMachB
import Derived.Test.YtfmecpnokefokaaGreatDoorLit1
import Derived.Test.YtfmecpnokefokaaGreatDoorPartsA
import Derived.Test.YtfmecpnokefokaaGreatDoorClass
set_option linter.unusedSimpArgs false
set_option linter.unusedVariables false
namespace Go.Proofs.YtfmecpnokefokaaGreatDoor.Pa
open Go.ChangeShapes Go.WideShapes Go.Deep Go.RowKit Cls Md Mc
set_option maxRecDepth 100000
end Go.Proofs.YtfmecpnokefokaaGreatDoor.Pa
namespace Go.Proofs.YtfmecpnokefokaaGreatDoor.Pa
open Go.ChangeShapes Go.WideShapes Go.Deep Go.RowKit Cls Md Mc
set_option maxRecDepth 100000
end Go.Proofs.YtfmecpnokefokaaGreatDoor.Pa
namespace Go.Proofs.YtfmecpnokefokaaGreatDoor.Pa
open Go.ChangeShapes Go.WideShapes Go.Deep Go.RowKit Cls Md Mc
set_option maxRecDepth 100000
end Go.Proofs.YtfmecpnokefokaaGreatDoor.Pa
namespace Go.Proofs.YtfmecpnokefokaaGreatDoor.Pa
open Go.ChangeShapes Go.WideShapes Go.Deep Go.RowKit Cls Md Mc
set_option maxRecDepth 100000
end Go.Proofs.YtfmecpnokefokaaGreatDoor.Pa
namespace Go.Proofs.YtfmecpnokefokaaGreatDoor.Cls
open Go.ChangeShapes Go.WideShapes Go.Deep Go.RowKit
set_option maxRecDepth 100000
theorem all_take (f : UInt8 → Bool) : ∀ (l : List UInt8) (k : Nat), k ≤ l.length → (l.take k).all f = decide (k ≤ spanN f l)
 | l, 0, _ => by simp
 | [], k + 1, h => by simp at h
 | c :: l, k + 1, h => by
  have ih := all_take f l k (by simpa using h)
  rw [List.take_succ_cons, List.all_cons, ih]
  unfold spanN
  rw [List.takeWhile_cons]
  cases hc : f c <;> simp
theorem isName_take {s : List UInt8} {a k : Nat} (h1 : 1 ≤ k) (hk : a + k ≤ s.length) : isNameB ((s.take (a + k)).drop a) = decide (k ≤ nameN s a) := by
 have e : (s.take (a + k)).drop a = (s.drop a).take k := by rw [List.drop_take, show a + k - a = k by omega]
 rw [e]
 have hl : (s.drop a).length = s.length - a := List.length_drop
 unfold nameN
 generalize s.drop a = l at *
 have hkl : k ≤ l.length := by omega
 match l, hkl with
 | [], h => simp at h; omega
 | c :: r, hkl =>
  obtain ⟨j, rfl⟩ : ∃ j, k = j + 1 := ⟨k - 1, by omega⟩
  unfold isNameB
  rw [all_take nameB _ _ hkl]
  rw [List.take_succ_cons]
  show (letterB c && _) = _
  have hsp : (spanN letterB (c :: r) == 0) = !letterB c := by
   unfold spanN
   rw [List.takeWhile_cons]
   cases letterB c <;> simp
  rw [hsp]
  cases letterB c <;> simp
theorem refName_any (s : List UInt8) (a : Nat) (w : World) (hs : s.length ≤ 1073741824) (ha : a ≤ s.length) : Calls Tryz.prog 103 #[.string (B s), .int .i64 a] w fun e w' => e = .returned (.int .i64 (nameN s a)) ∧ w = w' := by
 have HI := Lib.hid fun (k : Nat) (h1 : 1 ≤ k) (hk : a + k ≤ s.length) w => (isName_take h1 hk) ▸ refIsName_any ((s.take (a + k)).drop a) w (by rw [List.length_drop, List.length_take]; omega)
 have hn : nameN s a ≤ s.length - a := by
  unfold nameN
  split
  ·omega
  ·have := spanN_le nameB (s.drop a); rwa [List.length_drop] at this
 generalize nameN s a = n at *
 have hw0 : IntKind.i64.wrap ((s.length : Int) - (a : Int)) = (s.length : Int) - (a : Int) := IntWalk.i64_in _ (by omega)
 go_enter Tryz.func103, Tryz.ntmps103
 go_wp2
 go_loopw [5, 6] (fun v5 v6 wr => ∃ k : Nat, 1 ≤ k ∧ k ≤ s.length - a + 1 ∧ v6 = .int .i64 k ∧ v5 = .int .i64 ((min (k - 1) n : Nat) : Int) ∧ w = wr) (fun _ i _ => s.length - a + 1 - (intOf i).toNat)
 case atStart => exact ⟨1, Nat.le_refl _, by omega, rfl, by simp, rfl⟩
 case round =>
  obtain ⟨k, hk1, hk, rfl, rfl, rfl⟩ := hrel
  by_cases hlt : k ≤ s.length - a
  ·have k0 : (0 : Int) ≤ (a : Int) := by omega
   have k1 : (k : Int) ≤ (s.length : Int) - (a : Int) := by omega
   have k2 : IntKind.i64.wrap ((a : Int) + (k : Int)) = (a : Int) + (k : Int) := IntWalk.i64_in _ (by omega)
   have k3 : (a : Int) ≤ (a : Int) + (k : Int) := by omega
   have k4 : (a : Int) + (k : Int) ≤ (s.length : Int) := by omega
   have k5 : ((a : Int) + (k : Int)).toNat = a + k := by omega
   have HC := Lib.hid (HI.out k hk1 (by omega) w)
   by_cases hc : k ≤ n
   ·rw [decide_eq_true hc] at HC
    go_wp2_with (go_at_call 20; refine HC.out.mono ?_; rintro e w2 ⟨rfl, rfl⟩)
    refine ⟨⟨k + 1, by omega, by omega, by go_num, ?_, trivial⟩, by simp [intOf]; omega⟩
    rw [show min (k + 1 - 1) n = k by omega]
   ·rw [decide_eq_false hc] at HC
    go_wp2_with (go_at_call 20; refine HC.out.mono ?_; rintro e w2 ⟨rfl, rfl⟩)
    refine ⟨⟨k + 1, by omega, by omega, by go_num, ?_, trivial⟩, by simp [intOf]; omega⟩
    rw [show min (k + 1 - 1) n = min (k - 1) n by omega]
  ·have k1 : ¬ (k : Int) ≤ (s.length : Int) - (a : Int) := by omega
   have hr : min (k - 1) n = n := by omega
   rw [hr]
   go_wp2
   go_ret
   exact ⟨rfl, rfl⟩
def parL : List UInt8 := [64, 42, 35, 63, 45, 36, 33]
theorem parL_is (b : UInt8) : parL.contains b = parB b.toNat := by
 have h : ∀ n : Fin 256, parL.contains (UInt8.ofNat n.val) = parB (UInt8.ofNat n.val).toNat := by decide +kernel
 have := h ⟨b.toNat, UInt8.toNat_lt b⟩
 simpa using this
theorem refParam_any (s : List UInt8) (a : Nat) (w : World) (hs : s.length ≤ 1073741824) (ha : a ≤ s.length) : Calls Tryz.prog 66 #[.string (B s), .int .i64 a] w fun e w' => e = .returned (.int .i64 (paramN s a)) ∧ w = w' := by
 have HN := Lib.hid fun w => refName_any s a w hs ha
 unfold paramN
 generalize nameN s a = n at *
 by_cases h : n = 0
 ·subst h
  rw [if_neg (by simp)]
  by_cases hl : a < s.length
  ·rw [dif_pos hl]
   have p2 : (0 : Int) ≤ (a : Int) := by omega
   have p3 : (a : Int) < (s.length : Int) := by omega
   have hd : min (spanN digitB (s.drop a)) 1 = if digitB s[a] = true then 1 else 0 := by
    rw [spanN_step digitB hl]
    cases digitB s[a] <;> simp
   rw [hd]
   have HC := Lib.hid (refClass_any s[a])
   have HI := Lib.hid fun w => Pat.in_any s[a] parL w (by decide)
   rw [parL_is] at HI
   unfold digitB
   generalize clsB s[a] = q at *
   generalize parB s[a].toNat = pb at *
   clear hd
   have hB : ({ data := #[64, 42, 35, 63, 45, 36, 33] } : ByteArray) = B parL := rfl
   by_cases h6 : q = 6
   ·subst h6
    go_enter Tryz.func66, Tryz.ntmps66
    cases pb <;>
    ·go_wp2_with (first
      | (go_at_call 103; refine (HN.out _).mono ?_; rintro e w' ⟨rfl, rfl⟩)
      | (go_at_call 45; refine (HC.out _).mono ?_; rintro e w' ⟨rfl, rfl⟩))
     go_ret
     exact ⟨rfl, rfl⟩
   ·have h7 : (q == 6) = false := by simpa using h6
    rw [h7]
    go_enter Tryz.func66, Tryz.ntmps66
    rw [hB]
    cases pb <;>
    ·go_wp2_with (first
      | (go_at_call 103; refine (HN.out _).mono ?_; rintro e w' ⟨rfl, rfl⟩)
      | (go_at_call 45; refine (HC.out _).mono ?_; rintro e w' ⟨rfl, rfl⟩)
      | (go_at_call 54; refine (HI.out _).mono ?_; rintro e w' ⟨rfl, rfl⟩))
     go_ret
     exact ⟨rfl, rfl⟩
  ·rw [dif_neg hl]
   have p1 : ¬ (a : Int) < (s.length : Int) := by omega
   go_enter Tryz.func66, Tryz.ntmps66
   go_wp2_with (go_at_call 103; refine (HN.out _).mono ?_; rintro e w' ⟨rfl, rfl⟩)
   go_ret
   exact ⟨rfl, rfl⟩
 ·rw [if_pos h]
  have h1 : ((n : Int) == 0) = false := by rw [beq_eq_false_iff_ne]; omega
  go_enter Tryz.func66, Tryz.ntmps66
  go_wp2_with (go_at_call 103; refine (HN.out _).mono ?_; rintro e w' ⟨rfl, rfl⟩)
  go_ret
  exact ⟨rfl, rfl⟩
end Go.Proofs.YtfmecpnokefokaaGreatDoor.Cls
