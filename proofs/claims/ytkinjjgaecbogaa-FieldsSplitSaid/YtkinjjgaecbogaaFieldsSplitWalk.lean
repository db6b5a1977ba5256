/-
  The walk of the law FieldsSplit: it returns true, whatever its arguments. Conditions: none (arguments as the row reads them).
-/
import Derived.Test.YtkinjjgaecbogaaFieldsRef
import Derived.Test.YtkinjjgaecbogaaFieldsWholePlain
namespace Go.Proofs.Ytkinjjgaecbogaa.fieldsSplit
open Go.ChangeShapes Go.WideShapes Go.Deep Go.ChangeAt Go.RowKit
set_option maxRecDepth 100000
set_option maxHeartbeats 3200000 in
theorem walk {H : Type} (enc : TypeId × Value → H) (w : World) (base : Nat) {v0 v1 : Value} {d0 d1 : DataW H} {p0 p1 : List MemPlace}
    (h0 : DataW.Trod enc Try.prog w 0 (fun _ => true) true 44 v0 d0 p0) (k0 : Value.okWide Try.prog w .any base 44 v0)
    (h1 : DataW.Trod enc Try.prog w 0 (fun _ => true) true 9 v1 d1 p1) (k1 : Value.okWide Try.prog w .any base 9 v1) :
    Calls Try.prog 6 #[v0, v1] w fun e w' => e = .returned (.bool true) ∧ Below w.heap.size w w' := by
  obtain ⟨l, hv, hok, hl⟩ := open_sl Piece.cells Piece.Ok Try.underlying44 piece_cells (by omega) piece_dec h0 k0
  obtain ⟨sp, rfl, hsp⟩ := open_text h1 k1
  clear h0 k0 h1 k1 hok
  have HV := Lib.hid hv
  have HF := Lib.hid fun (g : GrowOf w) => few26_any l v0 (grow w g) (hv.below g.2)
  obtain ⟨A, c, rfl, hc1, hc2, hn, hA⟩ := hv
  clear hA hn
  by_cases hfew : fewP l = false
  · have HF' := Lib.hid fun (g : GrowOf w) => show Calls Try.prog 29 #[.slice A l.length c] (grow w g) fun e w' => e = .returned (.bool false) ∧ Below (grow w g).heap.size (grow w g) w' from (HF.out g).mono fun e w' h => ⟨by rw [h.1, hfew], h.2⟩
    clear HF hfew
    go_enter Try.func6, Try.ntmps6
    go_wp2_with (first | (go_at_call 28; refine (awake26_any _).mono ?_; rintro e w' ⟨rfl, hb⟩; obtain ⟨g, rfl⟩ := to_grow hb; clear hb) | (go_at_call 29; refine (HF'.out _).mono ?_; rintro e w' ⟨rfl, hb⟩; obtain ⟨g, rfl⟩ := to_grow hb; clear hb))
    go_ret
    exact ⟨rfl, by (repeat (first | exact Below.refl _ _ | assumption | with_reducible refine below_alloc ?_ _ | with_reducible refine below_grow ?_ _ | with_reducible refine below_drewN ?_ _ | with_reducible refine below_drew ?_ | with_reducible refine below_setCell ?_ (by first | (dsimp only; omega) | (simp; done) | (simp; omega)) _))⟩
  have hfew' : fewP l = true := by simpa using hfew
  have HF' := Lib.hid fun (g : GrowOf w) => show Calls Try.prog 29 #[.slice A l.length c] (grow w g) fun e w' => e = .returned (.bool true) ∧ Below (grow w g).heap.size (grow w g) w' from (HF.out g).mono fun e w' h => ⟨by rw [h.1, hfew'], h.2⟩
  obtain ⟨hl12, hpl⟩ := fewP_yes hfew'
  clear HF hfew hfew'
  by_cases l1 : 40 < sp.length
  · go_enter Try.func6, Try.ntmps6
    go_wp2_with (first | (go_at_call 28; refine (awake26_any _).mono ?_; rintro e w' ⟨rfl, hb⟩; obtain ⟨g, rfl⟩ := to_grow hb; clear hb) | (go_at_call 29; refine (HF'.out _).mono ?_; rintro e w' ⟨rfl, hb⟩; obtain ⟨g, rfl⟩ := to_grow hb; clear hb))
    go_ret
    exact ⟨rfl, by (repeat (first | exact Below.refl _ _ | assumption | with_reducible refine below_alloc ?_ _ | with_reducible refine below_grow ?_ _ | with_reducible refine below_drewN ?_ _ | with_reducible refine below_drew ?_ | with_reducible refine below_setCell ?_ (by first | (dsimp only; omega) | (simp; done) | (simp; omega)) _))⟩
  have l1' := no (show ¬ (40 : Int) < (sp.length : Int) by omega)
  have hul := units_len l 40 hpl
  have hu : (unitsOf l).length ≤ 4294967296 := by omega
  have hpl2 : ∀ p ∈ l, p.text.length ≤ 4294967296 := fun p hp => by have := hpl p hp; omega
  have HS := Lib.hid fun (W : World) (hW : Below w.heap.size w W) => split_any _ l sp W (HV.out.below hW) (by omega) hpl2 hu
  have HR := Lib.hid fun (W : World) (hW : Below w.heap.size w W) => refSplit_any _ l sp W (HV.out.below hW) (by omega) hpl2 hu (by omega)
  have HE : Hid (∀ (u v : Value) (W : World), Own W w.heap.size 2 u (splitF l sp).length ((splitF l sp).flatMap Fd.cells) → Own W w.heap.size 2 v (splitF l sp).length ((splitF l sp).flatMap Fd.cells) → Calls Try.prog 30 #[u, v] W fun e w' => e = .returned (.bool true) ∧ Below W.heap.size W w') :=
    fun u v W hu hv => (same_fd (splitF l sp) (splitF l sp) u v W (hu.sl fd_len rfl) (hv.sl fd_len rfl)).mono fun e w' h => ⟨by rw [h.1, decide_eq_true rfl], h.2⟩
  clear l1 hul hu hpl2 hpl
  generalize splitF l sp = out at *
  go_enter Try.func6, Try.ntmps6
  go_wp2_with (first
    | (go_at_call 28; refine (awake26_any _).mono ?_; rintro e w' ⟨rfl, hb⟩; obtain ⟨g, rfl⟩ := to_grow hb; clear hb)
    | (go_at_call 29; refine (HF'.out _).mono ?_; rintro e w' ⟨rfl, hb⟩; obtain ⟨g, rfl⟩ := to_grow hb; clear hb)
    | (go_at_call 31; refine (HS.out _ (grow_below _ _)).mono ?_; rintro e w1 ⟨v1, rfl, ho1, hb1⟩; have HB1 : Hid (Below w.heap.size w w1) := (grow_below w _).trans (hb1.mono (grow_below w _).size); have HO1 := Lib.hid (ho1.mono (grow_below w _).size); clear ho1 hb1)
    | (go_at_call 32; refine (HR.out _ HB1.out).mono ?_; rintro e w2 ⟨v2, rfl, ho2, hb2⟩; have HB2 : Hid (Below w.heap.size w w2) := HB1.out.trans (hb2.mono HB1.out.size); have HO12 := Lib.hid (HO1.out.below hb2); have HO2 := Lib.hid (ho2.mono HB1.out.size); clear ho2 hb2)
    | (go_at_call 30; refine (HE.out _ _ _ HO12.out HO2.out).mono ?_; rintro e w3 ⟨rfl, hb3⟩; have HB3 : Hid (Below w.heap.size w w3) := HB2.out.trans (hb3.mono HB2.out.size); clear hb3))
  go_ret
  exact ⟨rfl, HB3.out⟩
end Go.Proofs.Ytkinjjgaecbogaa.fieldsSplit
