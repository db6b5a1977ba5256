/-
  The walks of layer 16 (pattern): the reference's classes. Conditions: texts of at most 2^40 bytes.
-/
import Derived.Shelf.Strings.Builder1
import Derived.Shelf.Small.Wraps
import Derived.Shelf.Strings.BuilderF
import Derived.Shelf.Strings.BuilderK
import Derived.Shelf.Strings.BuilderCap
import Derived.Shelf.Slices.Reverse
import Derived.Ground.Names2Prog
import Derived.Shelf.Slices.SearchI
import Derived.Shelf.Slices.Cells
import Derived.Shelf.Slices.Empties
import Derived.Ground.SlgnProg
import Derived.Shelf.SlicesE.Reverse
import Derived.Test.YtadaeecokkokjaaGreatProg
import Derived.Test.YtadaeecokkokjaaGreatPatA
set_option linter.unusedSimpArgs false
set_option linter.unusedVariables false
namespace Go.Proofs.YtadaeecokkokjaaGreat
open Go.Shelf
def Tryz.laysNm225_ren : Go.Shelf.Ren := ⟨fun | 25 => 42 | 31 => 70 | 32 => 71 | 37 => 97 | n => n, fun | 22 => 23 | 3 => 3 | 4 => 4 | 40 => 118 | 0 => 0 | n => n, fun | n => n⟩
theorem Tryz.laysNm225 : Go.Proofs.Lays2.n25 Tryz.prog Tryz.laysNm225_ren := {
  mixed := by kernel_rfl
  f25 := Tryz.func42.trans (congrArg some (by kernel_rfl))
  f31 := Tryz.func70.trans (congrArg some (by kernel_rfl))
  f32 := Tryz.func71.trans (congrArg some (by kernel_rfl))
  f37 := Tryz.func97.trans (congrArg some (by kernel_rfl))
  t0 := Tryz.underlying0
  a0 := Tryz.isAgg0
  z0 := Tryz.sizeOf0
  v0 := Tryz.zeroValue0
  t3 := Tryz.underlying3
  a3 := Tryz.isAgg3
  z3 := Tryz.sizeOf3
  v3 := Tryz.zeroValue3
  t4 := Tryz.underlying4
  a4 := Tryz.isAgg4
  z4 := Tryz.sizeOf4
  v4 := Tryz.zeroValue4
  t22 := Tryz.underlying23
  a22 := Tryz.isAgg23
  z22 := Tryz.sizeOf23
  v22 := Tryz.zeroValue23
  t40 := Tryz.underlying118
  a40 := Tryz.isAgg118
  z40 := Tryz.sizeOf118
  v40 := Tryz.zeroValue118 }
open Go.RowKit Go.Lib in
theorem Tryz.slices_BinarySearch_int (b off n c : Nat) (zs : List Int) (x : Int) (w : World) (hz : n ≤ zs.length) (hbig : n < 4611686018427387904) (hc : ∀ j, j < zs.length → w.cell? ⟨b, off + j, none⟩ = some (.int .i64 (zs.getD j 0))) (hs : (zs.take n).Pairwise (· ≤ ·)) :
    Calls Tryz.prog 42 #[.slice (some ⟨b, off, none⟩) n c, .int .i64 x] w fun e w' => e = .returned (.tuple #[.int .i64 ((zs.take n).countP (· < x) : Nat), .bool ((zs.take n).contains x)]) ∧ ∃ q, w' = w.drewN q := Any.slices_BinarySearch_int Tryz.laysNm225 b off n c zs x w hz hbig hc hs
open Go.RowKit Go.Lib in
theorem Tryz.slices_BinarySearch_int_empty (a : Option Addr) (c : Nat) (x : Int) (w : World) :
    Calls Tryz.prog 42 #[.slice a 0 c, .int .i64 x] w fun e w' => e = .returned (.tuple #[.int .i64 0, .bool false]) ∧ w' = w := Any.slices_BinarySearch_int_empty Tryz.laysNm225 a c x w
end Go.Proofs.YtadaeecokkokjaaGreat
namespace Go.Proofs.YtadaeecokkokjaaGreat.Pat
open Go.ChangeShapes Go.WideShapes Go.Deep Go.RowKit
set_option maxRecDepth 100000
theorem u8_ne {x y : UInt8} (h : ¬ x = y) : (((x.toNat : Nat) : Int) == ((y.toNat : Nat) : Int)) = false := by
  rw [beq_eq_false_iff_ne]
  intro e
  exact h (UInt8.toNat_inj.1 (by omega))
theorem in_any (b : UInt8) (s : List UInt8) (w : World) (hs : s.length ≤ 4294967296) : Calls Tryz.prog 47 #[.int .u8 b.toNat, .string (B s)] w fun e w' => e = .returned (.bool (s.contains b)) ∧ w = w' := by
  obtain ⟨r, hr⟩ : ∃ r, r = s.contains b := ⟨_, rfl⟩
  rw [← hr]
  have HRR := Lib.hid hr
  clear hr
  go_enter Tryz.func47, Tryz.ntmps47
  go_wp2
  go_loop [5] (fun i => ∃ k : Nat, k ≤ s.length ∧ i = .int .i64 k ∧ Hid ((s.take k).contains b = false)) (fun i => s.length - (intOf i).toNat)
  case atStart => exact ⟨0, by omega, rfl, rfl⟩
  case round =>
    obtain ⟨k, hk, rfl, HR⟩ := hrel
    by_cases hlt : k < s.length
    · have HT := Lib.hid (show s.take (k + 1) = s.take k ++ [s[k]] by rw [List.take_succ_eq_append_getElem hlt])
      have HM := Lib.hid (List.getElem_mem hlt)
      by_cases hx : s[k] = b
      · have HX := Lib.hid hx
        have hx' : ((s[k].toNat : Int) == (b.toNat : Int)) = true := by rw [hx]; simp
        clear hx
        go_wp2
        go_ret
        refine ⟨?_, rfl⟩
        have : s.contains b = true := by rw [List.contains_iff_mem, ← HX.out]; exact HM.out
        rw [HRR.out, this]; rfl
      · have hx' := u8_ne hx
        have HX := Lib.hid hx
        clear hx
        go_wp2
        go_round
        case rel => exact ⟨k + 1, by omega, by go_num, by
          show _ = false
          rw [HT.out, List.contains_append, HR.out, Bool.false_or]
          simpa using fun e => HX.out e.symm⟩
        case measure => simp [intOf]; omega
    · have hk' : k = s.length := by omega
      have h := HR.out
      rw [hk', List.take_length] at h
      have H := Lib.hid h
      clear h HR hk'
      go_wp2
      go_ret
      exact ⟨by rw [HRR.out, H.out]; rfl, rfl⟩
theorem e9 (b : UInt8) : btw b 9 13 = (decide (9 ≤ (b.toNat : Int)) && decide ((b.toNat : Int) ≤ 13)) := rfl
end Go.Proofs.YtadaeecokkokjaaGreat.Pat
