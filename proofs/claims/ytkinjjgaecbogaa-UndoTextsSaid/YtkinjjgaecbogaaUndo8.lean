/-
  The walks of layer 2 (undo), on: edit.Join of any two edits, joined. Conditions: texts of at most 2^60 bytes.
-/
import Derived.Test.YtkinjjgaecbogaaUndo7
namespace Go.Proofs.Ytkinjjgaecbogaa
open Go.ChangeShapes Go.WideShapes Go.Deep Go.RowKit
set_option maxRecDepth 100000
theorem far_yes (n : Int) (h : n < 0 ∨ 1048576 < n) (w : World) : Calls Try.prog 85 #[.int .i64 n] w fun e w' => e = .returned (.bool true) ∧ w = w' :=
  (far_any n w).mono fun e w' ⟨he, hw⟩ => ⟨by rw [he, yes h], hw⟩
theorem far_not (n : Int) (h : ¬ (n < 0 ∨ 1048576 < n)) (w : World) : Calls Try.prog 85 #[.int .i64 n] w fun e w' => e = .returned (.bool false) ∧ w = w' :=
  (far_any n w).mono fun e w' ⟨he, hw⟩ => ⟨by rw [he, no h], hw⟩
/-- One edit for two, any two; none: they aren't one. -/
def joinE (a b : Ed) : Option Ed :=
  if (a.pos < 0 ∨ 1048576 < a.pos) ∨ (b.pos < 0 ∨ 1048576 < b.pos) then none else (join a.pos.toNat a.del a.ins b.pos.toNat b.del b.ins).map fun x => ⟨x.1, x.2.1, x.2.2⟩
def ed0 : Ed := ⟨0, [], []⟩
def joinEV : Option Ed → Value
  | none => .tuple #[ed0.val, .bool false]
  | some e => .tuple #[e.val, .bool true]
theorem joinV_eq (a b : Ed) (h : ¬ ((a.pos < 0 ∨ 1048576 < a.pos) ∨ (b.pos < 0 ∨ 1048576 < b.pos))) : joinV (join a.pos.toNat a.del a.ins b.pos.toNat b.del b.ins) = joinEV (joinE a b) := by
  unfold joinE
  rw [if_neg h]
  cases join a.pos.toNat a.del a.ins b.pos.toNat b.del b.ins with
  | none => rfl
  | some x => obtain ⟨k, x, y⟩ := x; rfl
set_option maxHeartbeats 1600000 in
theorem join_full (a b : Ed) (w : World) (ha1 : a.del.length ≤ 1152921504606846976) (ha2 : a.ins.length ≤ 1152921504606846976) (hb1 : b.del.length ≤ 1152921504606846976) (hb2 : b.ins.length ≤ 1152921504606846976) :
    Calls Try.prog 53 #[a.val, b.val] w fun e w' => e = .returned (joinEV (joinE a b)) ∧ Below w.heap.size w w' := by
  by_cases h1 : a.pos < 0 ∨ 1048576 < a.pos
  · have e1 : joinE a b = none := by unfold joinE; rw [if_pos (.inl h1)]
    rw [e1]
    have HF := Lib.hid (far_yes a.pos h1)
    clear h1 e1
    unfold Ed.val joinEV ed0
    go_enter Try.func53, Try.ntmps53
    go_wp2_with (go_at_call 85; refine (HF.out _).mono ?_; rintro e w' ⟨rfl, rfl⟩)
    exact bodyPost_ret (v := .tuple #[.agg #[.int .i64 0, .string (B []), .string (B [])], .bool false]) (by simp [results, Try.results53, go_sem]) rfl ⟨rfl, by (repeat (first | exact Below.refl _ _ | assumption | with_reducible refine below_alloc ?_ _ | with_reducible refine below_grow ?_ _ | with_reducible refine below_drewN ?_ _ | with_reducible refine below_drew ?_ | with_reducible refine below_setCell ?_ (by first | (dsimp only; omega) | (simp; done) | (simp; omega)) _))⟩
  · by_cases h2 : b.pos < 0 ∨ 1048576 < b.pos
    · have e1 : joinE a b = none := by unfold joinE; rw [if_pos (.inr h2)]
      rw [e1]
      have HF := Lib.hid (far_not a.pos h1)
      have HG := Lib.hid (far_yes b.pos h2)
      clear h1 h2 e1
      unfold Ed.val joinEV ed0
      go_enter Try.func53, Try.ntmps53
      go_wp2_with (first
        | (go_at_call_of 85 (Value.int .i64 a.pos); refine (HF.out _).mono ?_; rintro e w' ⟨rfl, rfl⟩)
        | (go_at_call_of 85 (Value.int .i64 b.pos); refine (HG.out _).mono ?_; rintro e w' ⟨rfl, rfl⟩))
      exact bodyPost_ret (v := .tuple #[.agg #[.int .i64 0, .string (B []), .string (B [])], .bool false]) (by simp [results, Try.results53, go_sem]) rfl ⟨rfl, by (repeat (first | exact Below.refl _ _ | assumption | with_reducible refine below_alloc ?_ _ | with_reducible refine below_grow ?_ _ | with_reducible refine below_drewN ?_ _ | with_reducible refine below_drew ?_ | with_reducible refine below_setCell ?_ (by first | (dsimp only; omega) | (simp; done) | (simp; omega)) _))⟩
    · rw [← joinV_eq a b (fun h => h.elim h1 h2)]
      obtain ⟨n, hn⟩ : ∃ n : Nat, a.pos = n := ⟨a.pos.toNat, by omega⟩
      obtain ⟨m, hm⟩ : ∃ n : Nat, b.pos = n := ⟨b.pos.toNat, by omega⟩
      have := join_any a.del a.ins b.del b.ins n m w (by omega) (by omega) (by omega) (by omega) (by omega) (by omega)
      unfold Ed.val
      rw [hn, hm]
      exact this
/-- Two steps as one. -/
def joinS (x y : Stp) : Option Stp := (joinE x.ed y.ed).map fun e => ⟨e, x.ahead, y.behind⟩
set_option maxHeartbeats 800000 in
theorem joined_any (x y : Stp) (w : World) (ha1 : x.ed.del.length ≤ 1152921504606846976) (ha2 : x.ed.ins.length ≤ 1152921504606846976) (hb1 : y.ed.del.length ≤ 1152921504606846976) (hb2 : y.ed.ins.length ≤ 1152921504606846976) (z : Stp) (ok : Bool)
    (hz : (joinS x y = some z ∧ ok = true) ∨ (joinS x y = none ∧ z = ⟨ed0, x.ahead, y.behind⟩ ∧ ok = false)) :
    Calls Try.prog 83 #[x.val, y.val] w fun e w' => e = .returned (.tuple #[z.val, .bool ok]) ∧ Below w.heap.size w w' := by
  have HJ := Lib.hid fun w => join_full x.ed y.ed w ha1 ha2 hb1 hb2
  have hv : joinEV (joinE x.ed y.ed) = .tuple #[z.ed.val, .bool ok] ∧ z.ahead = x.ahead ∧ z.behind = y.behind := by
    unfold joinS at hz
    rcases hz with ⟨h, rfl⟩ | ⟨h, rfl, rfl⟩
    · cases hj : joinE x.ed y.ed with
      | none => rw [hj] at h; cases h
      | some e => rw [hj] at h; cases h; exact ⟨rfl, rfl, rfl⟩
    · cases hj : joinE x.ed y.ed with
      | none => exact ⟨rfl, rfl, rfl⟩
      | some e => rw [hj] at h; cases h
  obtain ⟨hv1, hv2, hv3⟩ := hv
  rw [hv1] at HJ
  clear hz hv1
  obtain ⟨⟨zp, zd, zi⟩, za, zb⟩ := z
  dsimp only at hv2 hv3
  subst hv2 hv3
  unfold Stp.val
  unfold Ed.val at HJ
  dsimp only at HJ ⊢
  go_enter Try.func83, Try.ntmps83
  go_wp2_with (go_at_call 53; refine (HJ.out _).mono ?_; rintro e w1 ⟨rfl, hb⟩; obtain ⟨g, rfl⟩ := to_grow hb; clear hb)
  refine bodyPost_ret (v := .tuple #[.agg #[.int .i64 zp, .string (B zd), .string (B zi), .int .i64 x.ahead, .int .i64 y.behind], .bool ok]) (by simp [results, Try.results83, go_sem]) rfl ⟨rfl, ?_⟩
  (repeat (first | with_reducible exact Below.refl _ _ | with_reducible assumption | with_reducible refine below_alloc ?_ _ | with_reducible refine below_grow ?_ _ | with_reducible refine below_drewN ?_ _ | with_reducible refine below_drew ?_ | with_reducible refine below_setCell ?_ (by first | (dsimp only; omega) | (simp; done) | (simp; omega)) _))
end Go.Proofs.Ytkinjjgaecbogaa
