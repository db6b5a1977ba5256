/-
  The walk of layer 19's awake.
-/
import Derived.Test.YtkllgikmlgponaaTab3
namespace Go.Proofs.Ytkllgikmlgponaa.Tab
open Go.ChangeShapes Go.WideShapes Go.Deep Go.RowKit
set_option maxRecDepth 100000
theorem awake19_any (w : World) : Calls Try.prog 10 #[] w fun e w' => e = .returned (.bool true) ∧ Below w.heap.size w w' := by
  have HN := Lib.hid (new_ok 1 w (by omega) (by omega))
  have HS1 := Lib.hid fun W tb lv (h : TabAt W w.heap.size tb lv 1 []) => set_bad W w.heap.size tb lv 1 [] [97, 32, 98] [] h (by decide +kernel) (by decide)
  have HS2 := Lib.hid fun W tb lv (h : TabAt W w.heap.size tb lv 1 []) => set_end W w.heap.size tb lv 1 [] [120] [49] h (by decide +kernel) (by decide) (by decide) (by decide) (by decide +kernel) (by decide +kernel) (List.pairwise_cons.2 ⟨fun _ h => by simp at h, List.Pairwise.nil⟩)
  have HG := Lib.hid fun W tb lv (h : TabAt W w.heap.size tb lv 1 [⟨[120], [49]⟩]) => get_any W w.heap.size tb lv 1 [⟨[120], [49]⟩] [120] h (by decide)
  rw [show there [⟨[120], [49]⟩] [120] = true by decide +kernel, show valOf [⟨[120], [49]⟩] [120] = [49] by decide +kernel] at HG
  go_enter Try.func10, Try.ntmps10
  go_wp2_with (first
    | (go_at_call 18; refine HN.out.mono ?_; rintro e w1 ⟨rfl, ht, hb⟩; have HT := Lib.hid ht; have HB := Lib.hid hb; clear ht hb)
    | (go_at_call 20; (with_reducible refine (HS1.out _ _ _ HT.out).mono ?_); rintro e w2 ⟨rfl, rfl⟩)
    | (go_at_call 20; (with_reducible refine (HS2.out _ _ _ HT.out).mono ?_); rintro e w2 ⟨rfl, ⟨lv2, ht2, _⟩, hk2⟩; have HT2 := Lib.hid ht2; have HB2 := Lib.hid (HB.out.trans (hk2.below HB.out.size fun k hk => hk.elim (fun e => by rw [e]; exact Nat.le_refl _) (·.2))); clear ht2 hk2)
    | (go_at_call 23; (with_reducible refine (HG.out _ _ _ HT2.out).mono ?_); rintro e w3 ⟨rfl, hb3⟩; have HB3 := Lib.hid (below_then HB2.out hb3); clear hb3))
  go_ret
  exact ⟨rfl, HB3.out⟩
end Go.Proofs.Ytkllgikmlgponaa.Tab
