/-
  The walk of layer 18's awake. Conditions: the library's variable MaxLen holds some number.
-/
import Derived.Test.YtkllgikmlgponaaTree4
import Derived.Test.YtkllgikmlgponaaFil3
namespace Go.Proofs.Ytkllgikmlgponaa.Fil
open Go.ChangeShapes Go.WideShapes Go.Deep Go.RowKit Pat
set_option maxRecDepth 100000
theorem awake18_any (w : World) (hm : MaxL w) : Calls Try.prog 24 #[] w fun e w' => e = .returned (.bool true) ∧ Below w.heap.size w w' := by
  have HN := Lib.hid (newTree_any w)
  have HMK := Lib.hid fun W (hW : Below w.heap.size w W) (h : TreeAt W w.heap.size (w.heap.size + 1) [] (fun _ => w.heap.size) (fun _ => none)) => make_yes W w.heap.size (w.heap.size + 1) [] _ _ [47, 97] 1 h (hm.below hW) (by decide) (by decide) hW.size (by decide +kernel)
  have HKD := Lib.hid fun W (hW : Below w.heap.size w W) nb mp (h : TreeAt W w.heap.size (w.heap.size + 1) [⟨[47, 97], 1⟩] nb mp) => kind_any W w.heap.size (w.heap.size + 1) [⟨[47, 97], 1⟩] nb mp [47, 97] h (hm.below hW) (by decide)
  rw [show (if pathB [47, 97] = true then kindL [⟨[47, 97], 1⟩] [47, 97] else 0) = 1 by decide +kernel] at HKD
  have HCL := Lib.hid fun W (hW : Below w.heap.size w W) => clean_any [47, 97, 47, 98] [46, 46, 47, 99, 47, 47, 46, 47, 100] W (hm.below hW) (by decide) (by decide)
  rw [show cleanL [47, 97, 47, 98] [46, 46, 47, 99, 47, 47, 46, 47, 100] = [47, 97, 47, 99, 47, 100] by decide +kernel] at HCL
  go_enter Try.func24, Try.ntmps24
  go_wp2_with (first
    | (go_at_call 36; refine HN.out.mono ?_; rintro e w1 ⟨rfl, ht, hb⟩; have HT := Lib.hid ht; have HB := Lib.hid hb; clear ht hb)
    | (go_at_call 37; (with_reducible refine (HMK.out _ HB.out HT.out).mono ?_); rintro e w2 ⟨rfl, ⟨nb2, mp2, ht2, -⟩, hk2⟩; have HT2 : Hid (TreeAt w2 w.heap.size (w.heap.size + 1) [⟨[47, 97], 1⟩] nb2 mp2) := ht2; have HB2 := Lib.hid (below_keeps HB.out hk2 (fun k hk => hk.2)); clear ht2 hk2)
    | (go_at_call 42; (with_reducible refine (HKD.out _ HB2.out _ _ HT2.out).mono ?_); rintro e w3 ⟨rfl, hb3⟩; have HB3 := Lib.hid (below_then HB2.out hb3); clear hb3)
    | (go_at_call 30; (with_reducible refine (HCL.out _ HB3.out).mono ?_); rintro e w4 ⟨rfl, hb4⟩; have HB4 := Lib.hid (below_then HB3.out hb4); clear hb4))
  go_ret
  exact ⟨rfl, HB4.out⟩
end Go.Proofs.Ytkllgikmlgponaa.Fil
