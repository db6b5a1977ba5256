/-
  The walks of layer 19's reference: Unset. Conditions: at most 2^20 entries.
-/
import Derived.Test.YtkllgikmlgponaaTab9
import Derived.Test.YtkllgikmlgponaaTab3
namespace Go.Proofs.Ytkllgikmlgponaa.Tab
open Go.ChangeShapes Go.WideShapes Go.Deep Go.RowKit
set_option maxRecDepth 100000
def RowP (ys : List Ent) (w : World) (e : Ending) (w' : World) : Prop := ∃ v, e = .returned v ∧ Own w' w.heap.size 2 v ys.length (ys.flatMap Ent.cells) ∧ Below w.heap.size w w'
/-- Where an own slice lies that isn't empty. -/
theorem own_ge {w : World} {b0 sz n : Nat} {v : Value} {xs : List Value} (h : Own w b0 sz v n xs) (hn : 0 < n) : ∀ k, v.ownBlock = some k → b0 ≤ k := by
  intro k hk
  rcases h.2 with ⟨h0, _⟩ | ⟨g, off, c, rfl, h1, _⟩
  · omega
  · simp [Value.ownBlock] at hk
    omega
def RowQ (ys : List Ent) (w : World) (e : Ending) (w' : World) : Prop := ∃ v, e = .returned v ∧ Own w' w.heap.size 2 v ys.length (ys.flatMap Ent.cells) ∧ (v.ownBlock = none ∨ ∀ k, v.ownBlock = some k → w.heap.size ≤ k) ∧ Below w.heap.size w w'
/-- The entries but those of a name. -/
def butL (xs : List Ent) (s : List UInt8) : List Ent := xs.filter fun e => !(e.name == s)
theorem butL_le (xs : List Ent) (s : List UInt8) : (butL xs s).length ≤ xs.length := List.length_filter_le _ _
theorem butL_snoc (xs : List Ent) (s : List UInt8) (k : Nat) (x : Ent) (h : xs[k]? = some x) : butL (xs.take (k + 1)) s = if (x.name == s) = true then butL (xs.take k) s else butL (xs.take k) s ++ [x] := by
  obtain ⟨h1, rfl⟩ := List.getElem?_eq_some_iff.1 h
  unfold butL
  rw [List.take_succ_eq_append_getElem h1, List.filter_append]
  cases hq : (xs[k].name == s) <;> simp [hq]
set_option maxHeartbeats 1600000 in
theorem refUnset_any (xs : List Ent) (v : Value) (s : List UInt8) (w : World) (hv : Sl w Ent.cells 2 v xs) (hx : xs.length ≤ 1048576) : Calls Try.prog 22 #[v, .string (B s)] w (RowQ (butL xs s) w) := by
  obtain ⟨i0, hi0, hz00, hz01, hz02⟩ := info_parts info_ent
  obtain ⟨A, c, rfl, hc1, hc2, hn, hA⟩ := hv
  have HA := Lib.hid hA
  clear hA hn
  go_enter Try.func22, Try.ntmps22
  go_wp2
  go_loopw [5, 6] (fun o i w' => ∃ (v : Value) (k : Nat), v = o ∧ k ≤ xs.length ∧ i = .int .i64 k ∧ Hid (Own w' w.heap.size 2 v (butL (xs.take k) s).length ((butL (xs.take k) s).flatMap Ent.cells)) ∧ Hid (v.ownBlock = none ∨ ∀ k, v.ownBlock = some k → w.heap.size ≤ k) ∧ Below w.heap.size w w') (fun _ i _ => xs.length - (intOf i).toNat)
  case atStart => exact ⟨_, 0, rfl, by omega, rfl, Own.nil _ _ _, .inl rfl, Below.refl _ _⟩
  case round =>
    obtain ⟨v, k, rfl, hk, rfl, HO, HD, hbl⟩ := hrel
    have hbs := hbl.size
    by_cases hlt : k < xs.length
    · obtain ⟨b, off, rfl, hb, hc⟩ := HA.out (by omega)
      obtain ⟨x, hxm⟩ := get_some hlt
      have e0 := (hbl.cell (p := ⟨b, off + k * 2, none⟩) hb).trans (by have := hc k _ hxm 0 _ rfl; simpa using this)
      have e1 := (hbl.cell (p := ⟨b, off + k * 2 + 1, none⟩) hb).trans (hc k _ hxm 1 _ rfl)
      haveI : Old wr b := ⟨by omega⟩
      have k0 : (0 : Int) ≤ (k : Int) := by omega
      have k1 : (k : Int) < (xs.length : Int) := by omega
      have HS := Lib.hid (butL_snoc xs s k x hxm)
      have hle := butL_le (xs.take k) s
      rw [List.length_take] at hle
      clear hc hxm
      cases hq : (x.name == s) with
      | true =>
        rw [hq, if_pos rfl] at HS
        have hq2 : (x.name != s) = false := by rw [bne, hq]; rfl
        go_wp2
        go_roundw
        case rel => exact ⟨v, k + 1, rfl, by omega, by go_num, by rw [HS.out]; exact HO.out, HD.out, hbl⟩
        case measure => simp [intOf]; omega
      | false =>
        rw [hq, if_neg (by simp)] at HS
        have hq2 : (x.name != s) = true := by rw [bne, hq]; rfl
        go_wp2_with ((at_builtin; refine wpList_append_src _ rfl (.tmp 20) (.tmp 25) _ rfl w.heap.size 25 i0 _ 2 32 Try.underlying22 hi0 hz00 hz01 hz02 rfl (by decide) _ (butL (xs.take k) s).length ((butL (xs.take k) s).flatMap Ent.cells) rfl (HO.out.below (by (repeat (first | exact Below.refl _ _ | assumption | with_reducible refine below_alloc ?_ _ | with_reducible refine below_grow ?_ _ | with_reducible refine below_drewN ?_ _ | with_reducible refine below_drew ?_ | with_reducible refine below_setCell ?_ (by first | (dsimp only; omega) | (simp; done) | (simp; omega)) _)))) _ 1 (Ent.cells x) rfl rfl (Src.one _ _ _ _) (by simp [Ent.cells, Value.oneCell']) (by unfold maxLen; omega) (by omega) (by first | (simp; done) | omega | (simp; omega)) ?_; intro v2 w2 hown2 hg2 hat2 hty2; have HTY2 := Lib.hid hty2; clear hty2); have HO2 := Lib.hid hown2; have HB2 := Lib.hid (below_keeps (below_then hbl (below_alloc (Below.refl _ _) _)) hg2 (fun k hk => hk.2)); clear hown2 hg2 hat2)
        go_roundw
        case rel => exact ⟨v2, k + 1, rfl, by omega, by go_num, by
          show Own _ _ _ _ _ _
          rw [HS.out]
          simpa [List.flatMap_append] using HO2.out, .inr (own_ge HO2.out (by omega)), HB2.out⟩
        case measure => simp [intOf]; omega
    · have hk2 : k = xs.length := by omega
      have ho := HO.out
      rw [hk2, List.take_length] at ho
      have HO2 := Lib.hid ho
      have d0 := no hlt
      clear hk2 hlt ho
      go_wp2
      go_ret
      exact ⟨v, rfl, HO2.out, HD.out, hbl⟩
end Go.Proofs.Ytkllgikmlgponaa.Tab
