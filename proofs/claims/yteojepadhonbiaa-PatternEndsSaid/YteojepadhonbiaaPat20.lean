/-
  The walks of layer 16 (pattern): Heads, Tails. Conditions: texts of at most 2^30 bytes; the library's variable MaxLen holds some number.
-/
import Derived.Test.YteojepadhonbiaaPat19
import Derived.Test.YteojepadhonbiaaNums
namespace Go.Proofs.Yteojepadhonbiaa.Pat
open Go.ChangeShapes Go.WideShapes Go.Deep Go.RowKit
set_option maxRecDepth 100000
/-- The numbers below k at which f holds. -/
def evs (f : Nat → Bool) : Nat → List Int
  | 0 => []
  | k + 1 => if f k = true then evs f k ++ [(k : Int)] else evs f k
theorem evs_yes {f : Nat → Bool} {k : Nat} (h : f k = true) : evs f (k + 1) = evs f k ++ [(k : Int)] := by conv => lhs; unfold evs; rw [if_pos h]
theorem evs_no {f : Nat → Bool} {k : Nat} (h : f k = false) : evs f (k + 1) = evs f k := by conv => lhs; unfold evs; rw [if_neg (by rw [h]; simp)]
theorem evs_len (f : Nat → Bool) : ∀ k, (evs f k).length ≤ k
  | 0 => by simp [evs]
  | k + 1 => by
    have := evs_len f k
    unfold evs
    split <;> simp <;> omega
theorem evs_pre (f : Nat → Bool) (k : Nat) : ∀ n, evs f k <+: evs f (k + n)
  | 0 => List.prefix_refl _
  | n + 1 => by
    have := evs_pre f k n
    rw [← Nat.add_assoc]
    conv => rhs; unfold evs
    split
    · exact this.trans (List.prefix_append _ _)
    · exact this
theorem evs_at {f : Nat → Bool} {k n : Nat} (h : f k = true) (hk : k < n) : (evs f n)[(evs f k).length]? = some (k : Int) := by
  obtain ⟨t, ht⟩ := evs_pre f (k + 1) (n - (k + 1))
  rw [show k + 1 + (n - (k + 1)) = n by omega, evs_yes h] at ht
  rw [← ht]
  simp
def EvP (f : Nat → Bool) (n : Nat) (w : World) (e : Ending) (w' : World) : Prop := ∃ v, e = .returned v ∧ Own w' w.heap.size 1 v (evs f n).length ((evs f n).flatMap numC) ∧ Below w.heap.size w w'
set_option maxHeartbeats 1600000 in
theorem heads_any (p s : List UInt8) (w : World) (hm : MaxL w) (hp : p.length ≤ 1073741824) (hs : s.length ≤ 1073741824) :
    Calls Try.prog 37 #[.string (B p), .string (B s)] w (EvP (fun n => gm (parse p) (s.take n)) (s.length + 1) w) := by
  obtain ⟨i1, hi1, hz10, hz11, hz12⟩ := info_parts info_num
  have HP := Lib.hid (parse_any p w hm hp)
  have hpl := parse_len p
  have HMT := Lib.hid fun n v w hv => match_any (parse p) (s.take n) v w hv (by omega) (by simp; omega)
  clear hm
  go_enter Try.func37, Try.ntmps37
  go_wp2_with (go_at_call 33; refine HP.out.mono ?_; rintro e w1 ⟨vl, rfl, hv, hb⟩; have HV := Lib.hid hv; have HV1 := Lib.hid hv; obtain ⟨g, rfl⟩ := to_grow hb; have hw1 := hb.size; clear hv hb)
  have HB0 := Lib.hid (below_grow (Below.refl _ w) g)
  generalize grow w g = W1 at *
  go_loopw [4, 6] (fun s4 i w' => ∃ (v : Value) (k : Nat), v = s4 ∧ i = .int .i64 k ∧ k ≤ s.length + 1 ∧ Hid (Own w' W1.heap.size 1 v (evs (fun n => gm (parse p) (s.take n)) k).length ((evs (fun n => gm (parse p) (s.take n)) k).flatMap numC)) ∧ Hid (Sl w' atC 6 vl (parse p)) ∧ Hid (Below W1.heap.size W1 w')) (fun _ i _ => s.length + 1 - (intOf i).toNat)
  case atStart => exact ⟨_, 0, rfl, rfl, by omega, Own.nil _ _ _, HV.out, Below.refl _ _⟩
  case round =>
    clear HV
    obtain ⟨v, k, rfl, rfl, hk, HO, HV, HB⟩ := hrel
    have hbs := HB.out.size
    by_cases hkl : k ≤ s.length
    rotate_left
    · have hk2 : k = s.length + 1 := by omega
      have ho := HO.out
      rw [hk2] at ho
      have HO2 := Lib.hid ho
      have d0 := no hkl
      clear ho hk2 hkl
      go_wp2
      go_ret
      exact ⟨_, rfl, HO2.out.mono hw1, below_then HB0.out HB.out⟩
    have k0 : (0 : Int) ≤ (k : Int) := by omega
    have k1 : (k : Int) ≤ (s.length : Int) := by omega
    have hel := evs_len (fun n => gm (parse p) (s.take n)) k
    have HMK := Lib.hid (HMT.out k vl wr HV.out)
    cases hx : gm (parse p) (s.take k) with
    | true =>
      have HE := Lib.hid (evs_yes (f := fun n => gm (parse p) (s.take n)) (k := k) hx)
      rw [hx] at HMK
      clear hx
      go_wp2_with (first | (go_at_call 71; refine HMK.out.mono ?_; rintro e w2 ⟨rfl, hb⟩; have hgs := hb.size; have HB2 := Lib.hid hb; have HV2 := Lib.hid (HV.out.below hb); have HOa := Lib.hid (HO.out.below hb); clear hb) | ((at_builtin; refine wpList_append_src _ rfl (.tmp 20) (.tmp 22) _ rfl W1.heap.size 3 i1 _ 1 8 Try.underlying60 hi1 hz10 hz11 hz12 rfl (by decide) _ (evs (fun n => gm (parse p) (s.take n)) k).length ((evs (fun n => gm (parse p) (s.take n)) k).flatMap numC) rfl (HOa.out.below (by (repeat (first | exact Below.refl _ _ | assumption | with_reducible refine below_alloc ?_ _ | with_reducible refine below_grow ?_ _ | with_reducible refine below_drewN ?_ _ | with_reducible refine below_drew ?_ | with_reducible refine below_setCell ?_ (by first | (dsimp only; omega) | (simp; done) | (simp; omega)) _)))) _ 1 (numC (k : Int)) rfl rfl (Src.one _ _ _ _) (by simp [numC, Value.oneCell']) (by unfold maxLen; omega) (by omega) (by first | (simp; done) | omega | (simp; omega)) ?_; intro v1 w1 hown1 hg1 hat1 hty1; have HTY1 := Lib.hid hty1; clear hty1); have HW := Lib.hid (And.intro hown1 hg1); clear hown1 hg1 hat1))
      go_roundw
      case rel =>
        have hb3 := below_keeps (below_then HB.out (below_then HB2.out (below_alloc (Below.refl _ _) _))) HW.out.2 (fun k hk => hk.2)
        refine ⟨v1, k + 1, rfl, by go_num, by omega, ?_, ?_, hb3⟩
        · have := HW.out.1
          show Own _ _ _ _ _ _
          rw [HE.out]
          simpa using this
        · show Sl _ _ _ _ _
          exact HV1.out.old (HV2.out.below (below_alloc (Below.refl _ _) _)) HW.out.2 (fun k hk => hk.2)
      case measure => simp [intOf]; omega
    | false =>
      have HE := Lib.hid (evs_no (f := fun n => gm (parse p) (s.take n)) (k := k) hx)
      rw [hx] at HMK
      clear hx
      go_wp2_with (go_at_call 71; refine HMK.out.mono ?_; rintro e w2 ⟨rfl, hb⟩; have HB2 := Lib.hid hb; have HV2 := Lib.hid (HV.out.below hb); have HOa := Lib.hid (HO.out.below hb); clear hb)
      go_roundw
      case rel => exact ⟨_, k + 1, rfl, by go_num, by omega, by show Own _ _ _ _ _ _; rw [HE.out]; exact HOa.out, HV2.out, below_then HB.out HB2.out⟩
      case measure => simp [intOf]; omega
set_option maxHeartbeats 1600000 in
theorem tails_any (p s : List UInt8) (w : World) (hm : MaxL w) (hp : p.length ≤ 1073741824) (hs : s.length ≤ 1073741824) :
    Calls Try.prog 38 #[.string (B p), .string (B s)] w (EvP (fun n => gm (parse p) (s.drop n)) (s.length + 1) w) := by
  obtain ⟨i1, hi1, hz10, hz11, hz12⟩ := info_parts info_num
  have HP := Lib.hid (parse_any p w hm hp)
  have hpl := parse_len p
  have HMT := Lib.hid fun n v w hv => match_any (parse p) (s.drop n) v w hv (by omega) (by simp; omega)
  clear hm
  go_enter Try.func38, Try.ntmps38
  go_wp2_with (go_at_call 33; refine HP.out.mono ?_; rintro e w1 ⟨vl, rfl, hv, hb⟩; have HV := Lib.hid hv; have HV1 := Lib.hid hv; obtain ⟨g, rfl⟩ := to_grow hb; have hw1 := hb.size; clear hv hb)
  have HB0 := Lib.hid (below_grow (Below.refl _ w) g)
  generalize grow w g = W1 at *
  go_loopw [4, 6] (fun s4 i w' => ∃ (v : Value) (k : Nat), v = s4 ∧ i = .int .i64 k ∧ k ≤ s.length + 1 ∧ Hid (Own w' W1.heap.size 1 v (evs (fun n => gm (parse p) (s.drop n)) k).length ((evs (fun n => gm (parse p) (s.drop n)) k).flatMap numC)) ∧ Hid (Sl w' atC 6 vl (parse p)) ∧ Hid (Below W1.heap.size W1 w')) (fun _ i _ => s.length + 1 - (intOf i).toNat)
  case atStart => exact ⟨_, 0, rfl, rfl, by omega, Own.nil _ _ _, HV.out, Below.refl _ _⟩
  case round =>
    clear HV
    obtain ⟨v, k, rfl, rfl, hk, HO, HV, HB⟩ := hrel
    have hbs := HB.out.size
    by_cases hkl : k ≤ s.length
    rotate_left
    · have hk2 : k = s.length + 1 := by omega
      have ho := HO.out
      rw [hk2] at ho
      have HO2 := Lib.hid ho
      have d0 := no hkl
      clear ho hk2 hkl
      go_wp2
      go_ret
      exact ⟨_, rfl, HO2.out.mono hw1, below_then HB0.out HB.out⟩
    have k0 : (0 : Int) ≤ (k : Int) := by omega
    have k1 : (k : Int) ≤ (s.length : Int) := by omega
    have hel := evs_len (fun n => gm (parse p) (s.drop n)) k
    have HMK := Lib.hid (HMT.out k vl wr HV.out)
    cases hx : gm (parse p) (s.drop k) with
    | true =>
      have HE := Lib.hid (evs_yes (f := fun n => gm (parse p) (s.drop n)) (k := k) hx)
      rw [hx] at HMK
      clear hx
      go_wp2_with (first | (go_at_call 71; refine HMK.out.mono ?_; rintro e w2 ⟨rfl, hb⟩; have hgs := hb.size; have HB2 := Lib.hid hb; have HV2 := Lib.hid (HV.out.below hb); have HOa := Lib.hid (HO.out.below hb); clear hb) | ((at_builtin; refine wpList_append_src _ rfl (.tmp 20) (.tmp 22) _ rfl W1.heap.size 3 i1 _ 1 8 Try.underlying60 hi1 hz10 hz11 hz12 rfl (by decide) _ (evs (fun n => gm (parse p) (s.drop n)) k).length ((evs (fun n => gm (parse p) (s.drop n)) k).flatMap numC) rfl (HOa.out.below (by (repeat (first | exact Below.refl _ _ | assumption | with_reducible refine below_alloc ?_ _ | with_reducible refine below_grow ?_ _ | with_reducible refine below_drewN ?_ _ | with_reducible refine below_drew ?_ | with_reducible refine below_setCell ?_ (by first | (dsimp only; omega) | (simp; done) | (simp; omega)) _)))) _ 1 (numC (k : Int)) rfl rfl (Src.one _ _ _ _) (by simp [numC, Value.oneCell']) (by unfold maxLen; omega) (by omega) (by first | (simp; done) | omega | (simp; omega)) ?_; intro v1 w1 hown1 hg1 hat1 hty1; have HTY1 := Lib.hid hty1; clear hty1); have HW := Lib.hid (And.intro hown1 hg1); clear hown1 hg1 hat1))
      go_roundw
      case rel =>
        have hb3 := below_keeps (below_then HB.out (below_then HB2.out (below_alloc (Below.refl _ _) _))) HW.out.2 (fun k hk => hk.2)
        refine ⟨v1, k + 1, rfl, by go_num, by omega, ?_, ?_, hb3⟩
        · have := HW.out.1
          show Own _ _ _ _ _ _
          rw [HE.out]
          simpa using this
        · show Sl _ _ _ _ _
          exact HV1.out.old (HV2.out.below (below_alloc (Below.refl _ _) _)) HW.out.2 (fun k hk => hk.2)
      case measure => simp [intOf]; omega
    | false =>
      have HE := Lib.hid (evs_no (f := fun n => gm (parse p) (s.drop n)) (k := k) hx)
      rw [hx] at HMK
      clear hx
      go_wp2_with (go_at_call 71; refine HMK.out.mono ?_; rintro e w2 ⟨rfl, hb⟩; have HB2 := Lib.hid hb; have HV2 := Lib.hid (HV.out.below hb); have HOa := Lib.hid (HO.out.below hb); clear hb)
      go_roundw
      case rel => exact ⟨_, k + 1, rfl, by go_num, by omega, by show Own _ _ _ _ _ _; rw [HE.out]; exact HOa.out, HV2.out, below_then HB.out HB2.out⟩
      case measure => simp [intOf]; omega
end Go.Proofs.Yteojepadhonbiaa.Pat
