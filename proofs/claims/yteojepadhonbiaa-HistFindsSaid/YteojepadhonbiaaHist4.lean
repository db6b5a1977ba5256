/-
  The walks of layer 30 (hist), on: New, few, awake.
-/
import Derived.Test.YteojepadhonbiaaHist3
namespace Go.Proofs.Yteojepadhonbiaa
open Go.ChangeShapes Go.WideShapes Go.Deep Go.RowKit
def NewPost (most : Int) (w : World) (e : Ending) (w' : World) : Prop := ∃ hb, e = .returned (.pointer (some ⟨hb, 0, none⟩)) ∧ HistAt w' w.heap.size hb (.slice none 0 0) most [] ∧ Below w.heap.size w w'
theorem new_ok (most : Nat) (w : World) (h1 : 1 ≤ most) (h2 : most ≤ 10000) : Calls Try.prog 52 #[.int .i64 most] w (NewPost most w) := by
  have d1 := no (show ¬ (most : Int) < 1 by omega)
  have d2 := no (show ¬ (10000 : Int) < (most : Int) by omega)
  go_enter Try.func52, Try.ntmps52
  go_wp2
  go_ret
  refine ⟨w.heap.size, rfl, ⟨by simp, Nat.le_refl _, by go_simp, by go_simp, fun j => by simp [go_sem], Own.nil _ _ _, by simp [Value.ownBlock]⟩, by (repeat (first | exact Below.refl _ _ | assumption | with_reducible refine below_alloc ?_ _ | with_reducible refine below_grow ?_ _ | with_reducible refine below_drewN ?_ _ | with_reducible refine below_drew ?_ | with_reducible refine below_setCell ?_ (by first | (dsimp only; omega) | (simp; done) | (simp; omega)) _))⟩
theorem new_bad (most : Int) (w : World) (h : most < 1 ∨ 10000 < most) : Calls Try.prog 52 #[.int .i64 most] w fun e w' => e = .returned (.pointer none) ∧ w = w' := by
  by_cases d1 : most < 1
  · go_enter Try.func52, Try.ntmps52
    go_wp2
    go_ret
    exact ⟨rfl, rfl⟩
  · have d1' := no d1
    have d2 : (10000 : Int) < most := by omega
    clear h
    go_enter Try.func52, Try.ntmps52
    go_wp2
    go_ret
    exact ⟨rfl, rfl⟩
def fewB (xs : List (List UInt8)) (m : Nat) : Bool := decide (xs.length ≤ m) && xs.all fun x => decide (x.length ≤ 40)
theorem few_any (xs : List (List UInt8)) (v : Value) (m : Nat) (w : World) (hv : Sl w strC 1 v xs) (hm : m ≤ 1000) :
    Calls Try.prog 51 #[v, .int .i64 m] w fun e w' => e = .returned (.bool (fewB xs m)) ∧ Below w.heap.size w w' := by
  obtain ⟨A, c, rfl, hc1, hc2, hn, hA⟩ := hv
  have HA := Lib.hid hA
  clear hA hn
  by_cases hl : m < xs.length
  · have : fewB xs m = false := by simp [fewB]; omega
    rw [this]
    clear this
    go_enter Try.func51, Try.ntmps51
    go_wp2
    go_ret
    exact ⟨rfl, by (repeat (first | exact Below.refl _ _ | assumption | with_reducible refine below_alloc ?_ _ | with_reducible refine below_grow ?_ _ | with_reducible refine below_drewN ?_ _ | with_reducible refine below_drew ?_ | with_reducible refine below_setCell ?_ (by first | (dsimp only; omega) | (simp; done) | (simp; omega)) _))⟩
  · have hl1 : decide ((m : Int) < (xs.length : Int)) = false := no (by omega)
    have hl2 : xs.length ≤ m := by omega
    go_enter Try.func51, Try.ntmps51
    go_wp2
    clear hl1
    go_loopw [5] (fun i w' => ∃ k : Nat, k ≤ xs.length ∧ i = .int .i64 k ∧ Hid ((xs.take k).all (fun x => decide (x.length ≤ 40)) = true) ∧ w = w') (fun i _ => xs.length - (intOf i).toNat)
    case atStart => exact ⟨0, by omega, rfl, rfl, rfl⟩
    case round =>
      obtain ⟨k, hk, rfl, Hall, rfl⟩ := hrel
      by_cases hlt : k < xs.length
      · obtain ⟨b, off, rfl, hb, hc⟩ := HA.out (by omega)
        have e0 : w.cell? ⟨b, off + k, none⟩ = some (.string (B xs[k])) := by have := hc k _ (List.getElem?_eq_getElem hlt) 0 _ rfl; simpa using this
        clear hc
        have HT := Lib.hid (show xs.take (k + 1) = xs.take k ++ [xs[k]] by rw [List.take_succ_eq_append_getElem hlt])
        have HM := Lib.hid (List.getElem_mem hlt)
        generalize xs[k] = x at *
        by_cases hx : 40 < x.length
        · go_wp2
          go_ret
          refine ⟨?_, by (repeat (first | exact Below.refl _ _ | assumption | with_reducible refine below_alloc ?_ _ | with_reducible refine below_grow ?_ _ | with_reducible refine below_drewN ?_ _ | with_reducible refine below_drew ?_ | with_reducible refine below_setCell ?_ (by first | (dsimp only; omega) | (simp; done) | (simp; omega)) _))⟩
          have : fewB xs m = false := by
            unfold fewB
            rw [Bool.and_eq_false_iff]
            right
            rw [List.all_eq_false]
            exact ⟨x, HM.out, by simp; omega⟩
          rw [this]; rfl
        · have hx' := no hx
          go_wp2
          go_roundw
          case rel => exact ⟨k + 1, by omega, by go_num, by show _ = true; rw [HT.out, List.all_append, Hall.out]; simp; omega, trivial⟩
          case measure => simp [intOf]; omega
      · have hk' : k = xs.length := by omega
        have HK := Lib.hid hk'
        clear hk'
        go_wp2
        go_ret
        refine ⟨?_, by (repeat (first | exact Below.refl _ _ | assumption | with_reducible refine below_alloc ?_ _ | with_reducible refine below_grow ?_ _ | with_reducible refine below_drewN ?_ _ | with_reducible refine below_drew ?_ | with_reducible refine below_setCell ?_ (by first | (dsimp only; omega) | (simp; done) | (simp; omega)) _))⟩
        have h1 := Hall.out
        rw [HK.out, List.take_length] at h1
        have : fewB xs m = true := by unfold fewB; rw [h1]; simp; exact hl2
        rw [this]; rfl
theorem few_yes {xs : List (List UInt8)} {m : Nat} (h : fewB xs m = true) : xs.length ≤ m ∧ ∀ x ∈ xs, x.length ≤ 40 := by
  simp [fewB] at h; exact h
set_option maxRecDepth 100000 in
theorem awake_any (w : World) : Calls Try.prog 50 #[] w fun e w' => e = .returned (.bool true) ∧ Below w.heap.size w w' := by
  have z1 : wantB [] [97] = true := by decide
  have z2 : addL [] [97] 3 = [[97]] := by decide
  have z3 : wantB [[97]] [97] = false := by decide
  have z4 : addL [[97]] [97] 3 = [[97]] := by decide
  go_enter Try.func50, Try.ntmps50
  go_wp2_with (first
    | (go_at_call 52; refine (new_ok 3 _ (by omega) (by omega)).mono ?_; rintro e w1 ⟨hb, rfl, hh, hbl⟩; have HH := Lib.hid hh; have HB := Lib.hid hbl; have tok : True := trivial; clear hh hbl)
    | (go_at_call 53; clear tok; refine (add_any _ _ _ _ 3 [] [97] HH.out (by simp) (by omega) (by omega)).mono ?_; rintro e w2 ⟨rfl, ⟨lv2, hh2, _⟩, hk2⟩; rw [z1]; rw [z2] at hh2; have HH2 := Lib.hid hh2; have HK2 := Lib.hid hk2; clear hh2 hk2)
    | (go_at_call 53; refine (add_any _ _ _ _ 3 [[97]] [97] HH2.out (by simp) (by omega) (by omega)).mono ?_; rintro e w3 ⟨rfl, ⟨lv3, hh3, _⟩, hk3⟩; rw [z3]; rw [z4] at hh3; have HH3 := Lib.hid hh3; have HK3 := Lib.hid hk3; clear hh3 hk3)
    | (go_at_call 82; refine (lines_any _ _ _ _ _ [[97]] HH3.out (by simp)).mono ?_; rintro e w4 ⟨v4, rfl, ho4, hb4⟩; obtain ⟨g, off, c, rfl, _⟩ := ho4.form; have HB4 := Lib.hid hb4; clear ho4 hb4))
  go_ret
  refine ⟨rfl, ?_⟩
  have k2 := below_keeps HB.out HK2.out (fun k hk => by
    rcases hk with h | h
    · have := HH.out.ge; omega
    · exact h.2)
  have k3 := below_keeps k2 HK3.out (fun k hk => by
    rcases hk with h | h
    · have := HH.out.ge; omega
    · exact h.2)
  exact k3.trans (HB4.out.mono k3.size)
end Go.Proofs.Yteojepadhonbiaa
