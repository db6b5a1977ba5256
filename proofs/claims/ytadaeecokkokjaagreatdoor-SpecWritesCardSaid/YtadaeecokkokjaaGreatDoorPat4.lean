/-
  The walks of layer 16 (pattern): the reference's classes. Conditions: texts of at most 2^40 bytes.
-/
import Derived.Test.YtadaeecokkokjaaGreatDoorPatA
import Derived.Test.YtadaeecokkokjaaGreatDoorShelfB
set_option linter.unusedSimpArgs false
set_option linter.unusedVariables false
namespace Go.Proofs.YtadaeecokkokjaaGreatDoor.Pat
open Go.ChangeShapes Go.WideShapes Go.Deep Go.RowKit
set_option maxRecDepth 100000
theorem u8_ne {x y : UInt8} (h : ¬ x = y) : (((x.toNat : Nat) : Int) == ((y.toNat : Nat) : Int)) = false := by
  rw [beq_eq_false_iff_ne]
  intro e
  exact h (UInt8.toNat_inj.1 (by omega))
theorem in_any (b : UInt8) (s : List UInt8) (w : World) (hs : s.length ≤ 4294967296) : Calls Tryz.prog 48 #[.int .u8 b.toNat, .string (B s)] w fun e w' => e = .returned (.bool (s.contains b)) ∧ w = w' := by
  obtain ⟨r, hr⟩ : ∃ r, r = s.contains b := ⟨_, rfl⟩
  rw [← hr]
  have HRR := Lib.hid hr
  clear hr
  go_enter Tryz.func48, Tryz.ntmps48
  go_wp2
  go_loop [5] (fun i => ∃ k : Nat, k ≤ s.length ∧ i = .int .i64 k ∧ Hid ((s.take k).contains b = false)) (fun i => s.length - (intOf i).toNat)
  case atStart => exact ⟨0, by omega, rfl, rfl⟩
  case round =>
    obtain ⟨k, hk, rfl, HR⟩ := hrel
    by_cases hlt : k < s.length
    · have HT := Lib.hid (show s.take (k + 1) = s.take k ++ [s[k]] by rw [List.take_succ_eq_append_getElem hlt])
      have HM := Lib.hid (List.getElem_mem hlt)
      by_cases hx : s[k] = b
      · have HX := Lib.hid hx
        have hx' : ((s[k].toNat : Int) == (b.toNat : Int)) = true := by rw [hx]; simp
        clear hx
        go_wp2
        go_ret
        refine ⟨?_, rfl⟩
        have : s.contains b = true := by rw [List.contains_iff_mem, ← HX.out]; exact HM.out
        rw [HRR.out, this]; rfl
      · have hx' := u8_ne hx
        have HX := Lib.hid hx
        clear hx
        go_wp2
        go_round
        case rel => exact ⟨k + 1, by omega, by go_num, by
          show _ = false
          rw [HT.out, List.contains_append, HR.out, Bool.false_or]
          simpa using fun e => HX.out e.symm⟩
        case measure => simp [intOf]; omega
    · have hk' : k = s.length := by omega
      have h := HR.out
      rw [hk', List.take_length] at h
      have H := Lib.hid h
      clear h HR hk'
      go_wp2
      go_ret
      exact ⟨by rw [HRR.out, H.out]; rfl, rfl⟩
theorem e9 (b : UInt8) : btw b 9 13 = (decide (9 ≤ (b.toNat : Int)) && decide ((b.toNat : Int) ≤ 13)) := rfl
end Go.Proofs.YtadaeecokkokjaaGreatDoor.Pat
