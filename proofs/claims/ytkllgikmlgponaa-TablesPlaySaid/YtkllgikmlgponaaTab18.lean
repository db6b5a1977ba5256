/-
  The walk of layer 19's right, where the table has just these entries. Conditions: at most 2^20 entries.
-/
import Derived.Test.YtkllgikmlgponaaTab17
namespace Go.Proofs.Ytkllgikmlgponaa.Tab
open Go.ChangeShapes Go.WideShapes Go.Deep Go.RowKit
set_option maxRecDepth 100000
theorem own_str {w : World} {b0 g off n c : Nat} {xs : List (List UInt8)} (h : Own w b0 1 (.slice (some ⟨g, off, none⟩) n c) n (xs.flatMap strC)) {i : Nat} {x : List UInt8} (hx : xs[i]? = some x) : w.cell? ⟨g, off + i, none⟩ = some (.string (B x)) ∧ g < w.heap.size := by
  have hi : i < xs.length := (List.getElem?_eq_some_iff.1 hx).1
  rcases h.2 with ⟨h0, e | ⟨g', off', e, hg⟩⟩ | ⟨g', off', c', e, g1, g2, g3, g4, g5, g6⟩
  · cases e
  · exact absurd h.1 (by rw [strC_flat, h0]; omega)
  · injection e with e1
    injection e1 with e1
    injection e1 with e1 e2
    subst e1 e2
    refine ⟨g6 _ _ ?_, g2⟩
    rw [flat_get, hx]
    rfl
set_option maxHeartbeats 3200000 in
theorem right_yes (w : World) (b0 tb : Nat) (lv u : Value) (kind : Int) (xs : List Ent) (hx : xs.length ≤ 1048576) (hh : TabAt w b0 tb lv kind xs) (hu : Sl w Ent.cells 2 u xs) :
    Calls Try.prog 13 #[.pointer (some ⟨tb, 0, none⟩), u] w fun e w' => e = .returned (.int .i64 0) ∧ Below w.heap.size w w' := by
  have HAL := Lib.hid (all_any w b0 tb lv kind xs hx hh)
  have HNM := Lib.hid fun W (hW : Below w.heap.size w W) => names_any W b0 tb lv kind xs hx (hh.below hW)
  obtain ⟨A, c, rfl, hc1, hc2, hn0, hA⟩ := hu
  have HA := Lib.hid hA
  clear hA hn0 hh
  go_enter Try.func13, Try.ntmps13
  go_wp2_with (first
    | (go_at_call 17; refine HAL.out.mono ?_; rintro e w1 ⟨v1, rfl, ho1, hb1⟩; have HO1 := Lib.hid ho1; have HB1 := Lib.hid hb1; obtain ⟨A1, c1, rfl, -⟩ := ho1.form0; clear ho1 hb1)
    | (go_at_call 45; refine (HNM.out _ HB1.out).mono ?_; rintro e w2 ⟨v2, rfl, ho2, hb2⟩; have HO2 := Lib.hid ho2; have HB2 := Lib.hid hb2; obtain ⟨A2, c2, rfl, -⟩ := ho2.form0; rw [List.length_map] at *; clear ho2 hb2))
  go_loopw [7] (fun i w' => ∃ (k : Nat), k ≤ xs.length ∧ i = .int .i64 k ∧ Hid (Below w2.heap.size w2 w')) (fun i _ => xs.length - (intOf i).toNat)
  case atStart => exact ⟨0, by omega, rfl, Below.refl _ _⟩
  case round =>
    obtain ⟨k, hk, rfl, HB⟩ := hrel
    have hbs := HB.out.size
    by_cases hlt : k < xs.length
    · obtain ⟨b, off, rfl, hb, hc⟩ := HA.out (by omega)
      obtain ⟨x, hxm⟩ := get_some hlt
      obtain ⟨g1, off1, rfl⟩ : ∃ g1 off1, A1 = some ⟨g1, off1, none⟩ := by
        obtain ⟨g, off, c', e, -⟩ := HO1.out.form' (by omega)
        injection e with e1
        exact ⟨g, off, e1⟩
      obtain ⟨g2, off2, rfl⟩ : ∃ g2 off2, A2 = some ⟨g2, off2, none⟩ := by
        obtain ⟨g, off, c', e, -⟩ := HO2.out.form' (by omega)
        injection e with e1
        exact ⟨g, off, e1⟩
      have hB2 := below_then HB1.out (below_then HB2.out HB.out)
      have hB3 := below_then HB2.out HB.out
      have e0 := (hB2.cell (p := ⟨b, off + k * 2, none⟩) hb).trans (by have := hc k _ hxm 0 _ rfl; simpa using this)
      have e1 := (hB2.cell (p := ⟨b, off + k * 2 + 1, none⟩) hb).trans (hc k _ hxm 1 _ rfl)
      obtain ⟨f0, f1, f2⟩ := own_ent (HO1.out.below hB3) hxm
      obtain ⟨n0, n1⟩ := own_str (HO2.out.below HB.out) (i := k) (x := x.name) (by rw [List.getElem?_map, hxm]; rfl)
      haveI : Old wr b := ⟨World.block_lt_of_cell? _ _ e0⟩
      haveI : Old wr g1 := ⟨f2⟩
      haveI : Old wr g2 := ⟨n1⟩
      have k0 : (0 : Int) ≤ (k : Int) := by omega
      have k1 : (k : Int) < (xs.length : Int) := by omega
      clear hc hxm hB2 hB3
      go_wp2_with fail
      (refine wp_region_grow (by kernel_rfl) (by kernel_rfl) ?_; (repeat (go_big_quiet_step (fail))); refine wpQuiet_nil ?_; intro _ hw'; obtain ⟨gq, hw''⟩ := hw'; subst hw'')
      go_wp2_with fail
      go_roundw
      case rel => exact ⟨k + 1, by omega, by go_num, below_grow HB.out _⟩
      case measure => simp [intOf]; omega
    · have d0 := no hlt
      clear hlt
      go_wp2
      go_ret
      exact ⟨rfl, below_then HB1.out (below_then HB2.out HB.out)⟩
end Go.Proofs.Ytkllgikmlgponaa.Tab
