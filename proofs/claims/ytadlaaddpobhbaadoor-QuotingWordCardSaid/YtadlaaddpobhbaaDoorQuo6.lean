/-
  The walks of layer 17's reference, on: the shortest form; its law's opening. Conditions: texts of at most 2^30 bytes; the library's variable MaxLen holds some number.
-/
import Derived.Test.YtadlaaddpobhbaaDoorQuo5
namespace Go.Proofs.YtadlaaddpobhbaaDoor.Quo
open Go.ChangeShapes Go.WideShapes Go.Deep Go.RowKit Cls Bd Pat
set_option maxRecDepth 100000
set_option maxHeartbeats 2000000 in
theorem refShortest_any (s : List UInt8) (w : World) (hs : s.length ≤ 1073741824) : Calls Tryd.prog 13 #[.string (B s)] w fun e w' => e = .returned (.string (B (shortL s))) ∧ w = w' := by
  have HE := Lib.hid fun st W => refEncode_any s st true W hs
  have HL := Lib.hid (show shortL s = shorter (shorter (encL s 0 true) (encL s 4 true)) (encL s 5 true) from rfl)
  generalize shortL s = r at *
  go_enter Tryd.func13, Tryd.ntmps13
  go_wp2_with (go_at_call 11; refine (HE.out _ _).mono ?_; rintro e w' ⟨rfl, rfl⟩)
  go_loopw [3, 4, 5] (fun t i _ w' => w = w' ∧ ((i = .int .i64 4 ∧ t = .string (B (encL s 0 true))) ∨ (i = .int .i64 5 ∧ t = .string (B (shorter (encL s 0 true) (encL s 4 true)))) ∨ (i = .int .i64 6 ∧ t = .string (B r)))) (fun _ i _ _ => 6 - (intOf i).toNat)
  case atStart => exact ⟨rfl, .inl ⟨rfl, rfl⟩⟩
  case round =>
    obtain ⟨rfl, ⟨rfl, rfl⟩ | ⟨rfl, rfl⟩ | ⟨rfl, rfl⟩⟩ := hrel
    · have H1 := Lib.hid (show ∀ x, x = shorter (encL s 0 true) (encL s 4 true) → Value.string (B x) = .string (B (shorter (encL s 0 true) (encL s 4 true))) from fun x h => by rw [h])
      have HEE := Lib.hid (HE.out 4)
      generalize hx : shorter (encL s 0 true) (encL s 4 true) = x at *
      have HX := Lib.hid hx
      clear hx
      generalize encL s 0 true = a at *
      generalize encL s 4 true = b at *
      go_wp2_with (go_at_call 11; refine (HEE.out _).mono ?_; rintro e w' ⟨rfl, rfl⟩)
      all_goals
        go_roundw
        case rel => exact ⟨by trivial, .inr (.inl ⟨rfl, H1.out _ (by rw [← HX.out]; unfold shorter; first | rw [if_neg (by omega)] | rw [if_pos (by omega)])⟩)⟩
        case measure => simp [intOf]
    · have HEE := Lib.hid (HE.out 5)
      generalize shorter (encL s 0 true) (encL s 4 true) = a at *
      generalize encL s 5 true = b at *
      have H1 := Lib.hid (show ∀ x, x = shorter a b → Value.string (B x) = .string (B r) from fun x h => by rw [h, HL.out])
      go_wp2_with (go_at_call 11; refine (HEE.out _).mono ?_; rintro e w' ⟨rfl, rfl⟩)
      all_goals
        go_roundw
        case rel => exact ⟨by trivial, .inr (.inr ⟨rfl, H1.out _ (by unfold shorter; first | rw [if_neg (by omega)] | rw [if_pos (by omega)])⟩)⟩
        case measure => simp [intOf]
    · go_wp2
      go_ret
      exact ⟨rfl, rfl⟩
theorem awake17_any (w : World) (hm : MaxL w) : Calls Tryd.prog 9 #[] w fun e w' => e = .returned (.bool true) ∧ Below w.heap.size w w' := by
  have HE := Lib.hid (encode_any [105, 116, 39, 115] 5 true w hm (by simp))
  have HS := Lib.hid fun W (hb : Below w.heap.size w W) => shortest_any [105, 116, 39, 115] W (hm.below hb) (by simp)
  rw [show encL [105, 116, 39, 115] 5 true = [34, 105, 116, 39, 115, 34] by decide +kernel] at HE
  rw [show shortL [105, 116, 39, 115] = [105, 116, 92, 39, 115] by decide +kernel] at HS
  go_enter Tryd.func9, Tryd.ntmps9
  go_wp2_with (first
    | (go_at_call 10; refine HE.out.mono ?_; rintro e w1 ⟨rfl, hb⟩; have HB := Lib.hid hb; clear hb)
    | (go_at_call 12; refine (HS.out _ HB.out).mono ?_; rintro e w2 ⟨rfl, hb⟩; have HB2 := Lib.hid (below_then HB.out hb); clear hb))
  go_ret
  exact ⟨rfl, HB2.out⟩
end Go.Proofs.YtadlaaddpobhbaaDoor.Quo
