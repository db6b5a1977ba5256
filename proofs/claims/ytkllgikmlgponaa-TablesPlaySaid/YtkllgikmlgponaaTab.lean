/-
  The walks of layer 19 (tables): New, find, Get. Conditions: names of at most 2^30 bytes, at most 2^20 entries.
-/
import Derived.Test.YtkllgikmlgponaaTabPlain
import Derived.Test.YtkllgikmlgponaaClass2
namespace Go.Proofs.Ytkllgikmlgponaa.Tab
open Go.ChangeShapes Go.WideShapes Go.Deep Go.RowKit
set_option maxRecDepth 100000
def Ent.cells (e : Ent) : List Value := [.string (B e.name), .string (B e.val)]
def Ent.v (e : Ent) : Value := .agg #[.string (B e.name), .string (B e.val)]
theorem ent_len {xs : List Ent} : ∀ x ∈ xs, (Ent.cells x).length = 2 := fun _ _ => rfl
theorem ent_flat (xs : List Ent) : (xs.flatMap Ent.cells).length = xs.length * 2 := by induction xs <;> simp_all [Ent.cells] <;> omega
theorem ent_get (xs : List Ent) (k : Nat) (x : Ent) (h : xs[k]? = some x) : (xs.flatMap Ent.cells)[k * 2]? = some (.string (B x.name)) ∧ (xs.flatMap Ent.cells)[k * 2 + 1]? = some (.string (B x.val)) := by
  induction xs generalizing k with
  | nil => simp at h
  | cons y ys ih =>
    cases k with
    | zero => simp at h; subst h; exact ⟨rfl, rfl⟩
    | succ k =>
      have := ih k (by simpa using h)
      rw [show (k + 1) * 2 = k * 2 + 1 + 1 by omega]
      simpa [Ent.cells] using this
theorem own_ent {w : World} {b0 g off n c : Nat} {xs : List Ent} (h : Own w b0 2 (.slice (some ⟨g, off, none⟩) n c) n (xs.flatMap Ent.cells)) {k : Nat} {x : Ent} (hk : xs[k]? = some x) :
    w.cell? ⟨g, off + k * 2, none⟩ = some (.string (B x.name)) ∧ w.cell? ⟨g, off + k * 2 + 1, none⟩ = some (.string (B x.val)) ∧ g < w.heap.size := by
  have hi : k < xs.length := (List.getElem?_eq_some_iff.1 hk).1
  obtain ⟨q1, q2⟩ := ent_get xs k x hk
  rcases h.2 with ⟨h0, e | ⟨g', off', e, hg⟩⟩ | ⟨g', off', c', e, g1, g2, g3, g4, g5, g6⟩
  · cases e
  · exact absurd h.1 (by rw [ent_flat, h0]; omega)
  · injection e with e1
    injection e1 with e1
    injection e1 with e1 e2
    subst e1 e2
    exact ⟨g6 _ _ q1, g6 _ _ q2, g2⟩
theorem find1_any (e : Ent) (s : List UInt8) (w : World) : Calls Try.prog 75 #[.agg #[.string (B e.name), .string (B e.val)], .string (B s)] w fun r w' => r = .returned (.int .i64 (Lib.compareBytes e.name s)) ∧ Below w.heap.size w w' := by
  have HC := Lib.hid fun w => (Try.strings_Compare (B e.name) (B s) w).mono fun r w' ⟨h1, h2⟩ => (show r = Ending.returned (.int .i64 (Lib.compareBytes e.name s)) ∧ w = w' from ⟨by rw [h1, B_data, B_data], h2.symm⟩)
  go_enter Try.func75, Try.ntmps75
  go_wp2_with (go_at_call 63; refine (HC.out _).mono ?_; rintro e w' ⟨rfl, rfl⟩)
  go_ret
  exact ⟨rfl, by (repeat (first | exact Below.refl _ _ | assumption | with_reducible refine below_alloc ?_ _ | with_reducible refine below_grow ?_ _ | with_reducible refine below_drewN ?_ _ | with_reducible refine below_drew ?_ | with_reducible refine below_setCell ?_ (by first | (dsimp only; omega) | (simp; done) | (simp; omega)) _))⟩
def BsP (xs : List Ent) (s : List UInt8) (w : World) (e : Ending) (w' : World) : Prop := e = .returned (.tuple #[.int .i64 (place xs s), .bool (((xs[place xs s]?).map Ent.name) == some s)]) ∧ Below w.heap.size w w'
set_option maxHeartbeats 1600000 in
theorem bs_any (w : World) (b0 : Nat) (A : Option Addr) (c : Nat) (xs : List Ent) (s : List UInt8) (ho : Own w b0 2 (.slice A xs.length c) xs.length (xs.flatMap Ent.cells)) (hx : xs.length ≤ 1048576) (hr : Rises xs) :
    Calls Try.prog 74 #[.slice A xs.length c, .string (B s), .func (.func 75) #[] #[]] w (BsP xs s w) := by
  have HR := Lib.hid fun t ht => place_iff hr s (t := t) ht
  have HP := Lib.hid (place_le xs s)
  have HO := Lib.hid ho
  have HF := Lib.hid fun e w => find1_any e s w
  clear ho hr
  unfold BsP
  generalize place xs s = p at *
  go_enter Try.func74, Try.ntmps74
  go_wp2
  go_loopw [9, 10] (fun i j w' => ∃ a b : Nat, i = .int .i64 a ∧ j = .int .i64 b ∧ a ≤ p ∧ p ≤ b ∧ b ≤ xs.length ∧ Hid (Below w.heap.size w w')) (fun i j _ => (intOf j).toNat - (intOf i).toNat)
  case atStart => exact ⟨0, xs.length, rfl, rfl, by omega, HP.out, by omega, Below.refl _ _⟩
  case round =>
    obtain ⟨a, b, rfl, rfl, hap, hpb, hb, HB⟩ := hrel
    by_cases hlt : a < b
    · have h0 : (a : Int) < (b : Int) := by omega
      obtain ⟨g, off, rfl⟩ : ∃ g off, A = some ⟨g, off, none⟩ := by
        obtain ⟨g, off, c', e, -⟩ := HO.out.form' (by omega)
        injection e with e1
        exact ⟨g, off, e1⟩
      have m0 : (0 : Int) ≤ ((a : Int) + (b : Int)) / 2 := by omega
      have m1 : ((a : Int) + (b : Int)) / 2 < (xs.length : Int) := by omega
      have hmx : (a + b) / 2 < xs.length := by omega
      obtain ⟨x, hxm⟩ := get_some hmx
      have hxe : xs[(a + b) / 2] = x := by have := (List.getElem?_eq_some_iff.1 hxm).2; exact this
      obtain ⟨e0, e1, hg⟩ := own_ent (HO.out.below HB.out) hxm
      have hlp := HR.out _ hmx
      rw [hxe] at hlp
      have HFX := Lib.hid (HF.out x)
      haveI : Old wr g := ⟨hg⟩
      clear hxe hxm
      by_cases hc : Lib.compareBytes x.name s < 0
      · have hlp2 := hlp.1 hc
        clear hlp
        generalize Lib.compareBytes x.name s = cb at *
        go_wp2_with (go_at_call 75; refine (HFX.out _).mono ?_; rintro e w3 ⟨rfl, hb3⟩; have HB3 := Lib.hid (below_then HB.out hb3); clear hb3)
        go_roundw
        case rel => exact ⟨(a + b) / 2 + 1, b, by rw [show ((a : Int) + (b : Int)) / 2 + 1 = (((a + b) / 2 + 1 : Nat) : Int) by omega], rfl, by omega, hpb, hb, HB3.out⟩
        case measure => simp [intOf]; omega
      · have hlp2 : ¬ (a + b) / 2 < p := fun h => hc (hlp.2 h)
        have c0 := no hc
        clear hlp hc
        generalize Lib.compareBytes x.name s = cb at *
        go_wp2_with (go_at_call 75; refine (HFX.out _).mono ?_; rintro e w3 ⟨rfl, hb3⟩; have HB3 := Lib.hid (below_then HB.out hb3); clear hb3)
        go_roundw
        case rel => exact ⟨a, (a + b) / 2, rfl, by rw [show ((a : Int) + (b : Int)) / 2 = (((a + b) / 2 : Nat) : Int) by omega], hap, by omega, by omega, HB3.out⟩
        case measure => simp [intOf]; omega
    · have hp : p = a := by omega
      subst hp
      have d0 := no hlt
      have d1 := no (show ¬ (p : Int) < (b : Int) by omega)
      clear hlt
      by_cases hpn : p < xs.length
      · have p1 : (p : Int) < (xs.length : Int) := by omega
        have p0 : (0 : Int) ≤ (p : Int) := by omega
        obtain ⟨g, off, rfl⟩ : ∃ g off, A = some ⟨g, off, none⟩ := by
          obtain ⟨g, off, c', e, -⟩ := HO.out.form' (by omega)
          injection e with e1
          exact ⟨g, off, e1⟩
        obtain ⟨x, hxm⟩ := get_some hpn
        obtain ⟨e0, e1, hg⟩ := own_ent (HO.out.below HB.out) hxm
        have HFX := Lib.hid (HF.out x)
        have HQ : Hid ((((xs[p]?).map Ent.name) == some s) = (Lib.compareBytes x.name s == 0)) := by
          show _ = _
          rw [hxm, Bool.eq_iff_iff, beq_iff_eq, beq_iff_eq, Option.map_some, Option.some.injEq]
          exact ⟨fun h => by rw [h]; exact cmp_self _, cmp_zero⟩
        haveI : Old wr g := ⟨hg⟩
        clear hxm
        generalize Lib.compareBytes x.name s = cb at *
        go_wp2_with (go_at_call 75; refine (HFX.out _).mono ?_; rintro e w3 ⟨rfl, hb3⟩; have HB3 := Lib.hid (below_then HB.out hb3); clear hb3)
        go_ret2
        exact ⟨by rw [HQ.out]; rfl, HB3.out⟩
      · have HQ : Hid ((((xs[p]?).map Ent.name) == some s) = false) := by
          show _ = _
          rw [List.getElem?_eq_none (by omega)]
          rfl
        have p1 := no hpn
        have p2 := no (show ¬ (p : Int) < (xs.length : Int) by omega)
        clear hpn
        go_wp2_with fail
        go_ret2
        exact ⟨by rw [HQ.out]; rfl, HB.out⟩
end Go.Proofs.Ytkllgikmlgponaa.Tab
