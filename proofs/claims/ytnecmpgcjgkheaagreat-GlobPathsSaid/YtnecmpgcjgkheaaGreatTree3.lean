/-
  Trees of files, on: the walks of New, Kind, Make. Conditions: paths of at most 2^30 bytes, fewer than 10000 files; the library's variable MaxLen holds some number.
-/
import Derived.Test.YtnecmpgcjgkheaaGreatTree2
set_option linter.unusedSimpArgs false
set_option linter.unusedVariables false
namespace Go.Proofs.YtnecmpgcjgkheaaGreat.Fil
open Go.ChangeShapes Go.WideShapes Go.Deep Go.RowKit Pat
set_option maxRecDepth 100000
/-- The blocks of a tree. -/
def inTree (tb : Nat) (x : List Fl) (nb : List (List UInt8) → Nat) (mp : List (List UInt8) → Option Nat) (j : Nat) : Prop := j = tb ∨ ∃ ks, (kd x ks).isSome = true ∧ (j = nb ks ∨ mp ks = some j)
theorem newTree_any (w : World) : Calls Tryz.prog 14 #[] w fun e w' => e = .returned (.pointer (some ⟨w.heap.size + 1, 0, none⟩)) ∧ TreeAt w' w.heap.size (w.heap.size + 1) [] (fun _ => w.heap.size) (fun _ => none) ∧ Below w.heap.size w w' := by
  go_enter Tryz.func14, Tryz.ntmps14
  go_wp2
  go_ret
  refine ⟨rfl, ⟨by simp, by omega, by go_simp, by go_simp, fun j => by simp [go_sem], ⟨by simp, List.Pairwise.nil, fun ks a h => ?_⟩, fun ks k hk => ?_, fun ks _ _ a => ?_, fun ks r _ h => (by cases h), fun ks js h1 h2 _ => ?_, fun ks js r h1 h2 h => (by cases h)⟩, by (repeat (first | exact Below.refl _ _ | assumption | with_reducible refine below_alloc ?_ _ | with_reducible refine below_grow ?_ _ | with_reducible refine below_drewN ?_ _ | with_reducible refine below_drew ?_ | with_reducible refine below_setCell ?_ (by first | (dsimp only; omega) | (simp; done) | (simp; omega)) _))⟩
  all_goals have hz : ∀ ks : List (List UInt8), ks ≠ [] → kd [] ks = none := fun ks hne => by unfold kd; rw [if_neg hne]; split <;> rfl
  · rw [hz _ (by simp)] at h; cases h
  · have e : ks = [] := by
      by_cases q : ks = []
      · exact q
      · rw [hz ks q] at hk; cases hk
    subst e
    cases hk
    exact ⟨Nat.le_refl _, by simp; omega, by omega, by go_simp, by go_simp, fun j => by simp [go_sem]⟩
  · exact hz _ (by simp)
  · have e : ∀ ks : List (List UInt8), (kd [] ks).isSome = true → ks = [] := fun ks h => by
      by_cases q : ks = []
      · exact q
      · rw [hz ks q] at h; cases h
    rw [e ks h1, e js h2]
theorem kind_any (w : World) (b0 tb : Nat) (x : List Fl) (nb : List (List UInt8) → Nat) (mp : List (List UInt8) → Option Nat) (p : List UInt8) (h : TreeAt w b0 tb x nb mp) (hm : MaxL w) (hl : p.length ≤ 1073741824) :
    Calls Tryz.prog 46 #[.pointer (some ⟨tb, 0, none⟩), .string (B p)] w fun e w' => e = .returned (.int .i64 (if pathB p = true then kindL x p else 0)) ∧ Below w.heap.size w w' := by
  have HIP := Lib.hid (isPath_any p w hm hl)
  cases hp : pathB p with
  | false =>
    rw [hp] at HIP
    go_enter Tryz.func46, Tryz.ntmps46
    go_wp2_with (go_at_call 24; refine HIP.out.mono ?_; rintro e w1 ⟨rfl, hb⟩; have HB := Lib.hid hb; clear hb)
    go_ret
    exact ⟨rfl, HB.out⟩
  | true =>
    rw [hp] at HIP
    have HF := Lib.hid fun W (hW : Below w.heap.size w W) => find_any W b0 tb x nb mp p (h.below hW) (hm.below hW) hp hl
    have hkk := kd_kind h.ok hp
    have HT := Lib.hid h
    unfold nodeV at HF
    cases hk : kd x (nms p) with
    | none =>
      rw [hk] at HF hkk
      simp only [Option.isSome_none, Bool.false_eq_true, if_false] at HF
      unfold ptrV at HF
      have HKK := Lib.hid hkk
      clear h hm hkk hk hp
      go_enter Tryz.func46, Tryz.ntmps46
      go_wp2_with (first | (go_at_call 24; refine HIP.out.mono ?_; rintro e w1 ⟨rfl, hb⟩; have HB := Lib.hid hb; clear hb) | (go_at_call 26; refine (HF.out _ HB.out).mono ?_; rintro e w2 ⟨rfl, hb⟩; have HB2 := Lib.hid (below_then HB.out hb); clear hb))
      go_ret
      exact ⟨by rw [HKK.out]; rfl, HB2.out⟩
    | some k =>
      rw [hk] at HF hkk
      simp only [Option.isSome_some, if_true] at HF
      unfold ptrV at HF
      have HKK := Lib.hid hkk
      have HN := Lib.hid fun W (hW : Below w.heap.size w W) => (h.below hW).n (nms p) k hk
      clear h hm hkk hk hp
      go_enter Tryz.func46, Tryz.ntmps46
      go_wp2_with (first | (go_at_call 24; refine HIP.out.mono ?_; rintro e w1 ⟨rfl, hb⟩; have HB := Lib.hid hb; clear hb) | (go_at_call 26; refine (HF.out _ HB.out).mono ?_; rintro e w2 ⟨rfl, hb⟩; have HB2 := Lib.hid (below_then HB.out hb); obtain ⟨n1, n2, n3, n4, n5, n6⟩ := HN.out _ HB2.out; haveI : Old w2 (nb (nms p)) := ⟨n2⟩; clear hb n6))
      go_ret
      exact ⟨by rw [HKK.out]; rfl, HB2.out⟩
/-- What Make answers. -/
def makeN (x : List Fl) (p : List UInt8) (k : Int) : Int :=
  if pathB p = true then (if k < 1 ∨ 3 < k then 8 else if kindL x p ≠ 0 then 6 else if kindL x (dirL p) = 0 then 3 else if kindL x (dirL p) ≠ 1 then 11 else if 10000 ≤ x.length then 12 else 0) else 10
/-- The row behind Make. -/
def makeL (x : List Fl) (p : List UInt8) (k : Int) : List Fl := if makeN x p k = 0 then x ++ [⟨p, k⟩] else x
/-- What Make leaves. -/
structure MakeP (b0 tb : Nat) (x y : List Fl) (nb : List (List UInt8) → Nat) (mp : List (List UInt8) → Option Nat) (n : Int) (w : World) (e : Ending) (w' : World) : Prop where
  e : e = .returned (.int .i64 n)
  t : ∃ nb' mp', TreeAt w' b0 tb y nb' mp' ∧ ∀ j, inTree tb y nb' mp' j → inTree tb x nb mp j ∨ w.heap.size ≤ j
  k : Keeps (fun j => inTree tb x nb mp j ∧ b0 ≤ j) w w'
theorem MakeP.same {b0 tb : Nat} {x : List Fl} {nb : List (List UInt8) → Nat} {mp : List (List UInt8) → Option Nat} {n : Int} {w w' : World} (h : TreeAt w b0 tb x nb mp) (hb : Below w.heap.size w w') : MakeP b0 tb x x nb mp n w (.returned (.int .i64 n)) w' :=
  ⟨rfl, ⟨nb, mp, h.below hb, fun j hj => .inl hj⟩, Keeps.of_below hb⟩
set_option maxHeartbeats 3200000 in
theorem make_no (w : World) (b0 tb : Nat) (x : List Fl) (nb : List (List UInt8) → Nat) (mp : List (List UInt8) → Option Nat) (p : List UInt8) (k : Int) (h : TreeAt w b0 tb x nb mp) (hm : MaxL w) (hl : p.length ≤ 1073741824) (hx : x.length < 10000) (hn : makeN x p k ≠ 0) :
    Calls Tryz.prog 15 #[.pointer (some ⟨tb, 0, none⟩), .string (B p), .int .i64 k] w (MakeP b0 tb x x nb mp (makeN x p k) w) := by
  have HIP := Lib.hid (isPath_any p w hm hl)
  have HT := Lib.hid h
  have hmn : makeN x p k = if pathB p = true then (if k < 1 ∨ 3 < k then 8 else if kindL x p ≠ 0 then 6 else if kindL x (dirL p) = 0 then 3 else if kindL x (dirL p) ≠ 1 then 11 else if 10000 ≤ x.length then 12 else 0) else 10 := rfl
  cases hp : pathB p with
  | false =>
    rw [hp] at HIP
    rw [hp, if_neg (by simp)] at hmn
    have HMN := Lib.hid hmn
    clear hn h hm hmn hp
    go_enter Tryz.func15, Tryz.ntmps15
    go_wp2_with (go_at_call 24; refine HIP.out.mono ?_; rintro e w1 ⟨rfl, hb⟩; have HB := Lib.hid hb; clear hb)
    go_ret
    rw [HMN.out]
    exact MakeP.same HT.out HB.out
  | true =>
    rw [hp] at HIP
    rw [hp, if_pos rfl] at hmn
    by_cases k1 : k < 1
    · rw [if_pos (.inl k1)] at hmn
      have HMN := Lib.hid hmn
      clear hn h hm hmn hp
      go_enter Tryz.func15, Tryz.ntmps15
      go_wp2_with (go_at_call 24; refine HIP.out.mono ?_; rintro e w1 ⟨rfl, hb⟩; have HB := Lib.hid hb; clear hb)
      go_ret
      rw [HMN.out]
      exact MakeP.same HT.out HB.out
    by_cases k2 : 3 < k
    · rw [if_pos (.inr k2)] at hmn
      have HMN := Lib.hid hmn
      have d1 := no k1
      clear hn h hm hmn hp k1
      go_enter Tryz.func15, Tryz.ntmps15
      go_wp2_with (go_at_call 24; refine HIP.out.mono ?_; rintro e w1 ⟨rfl, hb⟩; have HB := Lib.hid hb; clear hb)
      go_ret
      rw [HMN.out]
      exact MakeP.same HT.out HB.out
    rw [if_neg (by omega)] at hmn
    have d1 := no k1
    have d2 := no k2
    have HF := Lib.hid fun W (hW : Below w.heap.size w W) => find_any W b0 tb x nb mp p (h.below hW) (hm.below hW) hp hl
    have hkk := kd_kind h.ok hp
    unfold nodeV at HF
    cases hk : kd x (nms p) with
    | some kk =>
      rw [hk] at HF hkk
      have hpos := kd_pos h.ok hk
      rw [if_pos (by rw [hkk]; simp; omega)] at hmn
      simp only [Option.isSome_some, if_true] at HF
      unfold ptrV at HF
      have HMN := Lib.hid hmn
      clear hn h hm hkk hk hp hmn k1 k2 hpos
      go_enter Tryz.func15, Tryz.ntmps15
      go_wp2_with (first | (go_at_call 24; refine HIP.out.mono ?_; rintro e w1 ⟨rfl, hb⟩; have HB := Lib.hid hb; clear hb) | (go_at_call 26; refine (HF.out _ HB.out).mono ?_; rintro e w2 ⟨rfl, hb⟩; have HB2 := Lib.hid (below_then HB.out hb); clear hb))
      go_ret
      rw [HMN.out]
      exact MakeP.same HT.out HB2.out
    | none =>
      rw [hk] at HF hkk
      rw [if_neg (by rw [hkk]; simp)] at hmn
      simp only [Option.isSome_none, Bool.false_eq_true, if_false] at HF
      have hne : p ≠ [47] := fun q => by rw [q] at hk; cases hk
      obtain ⟨hpd, hsp, hla⟩ := nms_split hp hne
      have hdl : (dirL p).length ≤ 1073741824 := by
        unfold dirL
        split
        · simp
        · rw [List.length_take]; omega
      have HPA := Lib.hid fun W (hW : Below w.heap.size w W) => part_any p W (hm.below hW) hl
      unfold partV at HPA
      rw [hp, if_pos rfl] at HPA
      have HFD := Lib.hid fun W (hW : Below w.heap.size w W) => find_any W b0 tb x nb mp (dirL p) (h.below hW) (hm.below hW) hpd hdl
      have hkd := kd_kind h.ok hpd
      unfold nodeV at HFD
      unfold ptrV at HF HFD
      cases hk2 : kd x (nms (dirL p)) with
      | none =>
        rw [hk2] at HFD hkd
        rw [if_pos (by rw [hkd]; rfl)] at hmn
        simp only [Option.isSome_none, Bool.false_eq_true, if_false] at HFD
        have HMN := Lib.hid hmn
        clear hn h hm hkk hk hp hmn k1 k2 hkd hk2 hsp hla hpd hdl
        go_enter Tryz.func15, Tryz.ntmps15
        go_wp2_with (first
          | (go_at_call 24; refine HIP.out.mono ?_; rintro e w1 ⟨rfl, hb⟩; have HB := Lib.hid hb; clear hb)
          | (go_at_call 26; (with_reducible refine (HF.out _ HB.out).mono ?_); rintro e w2 ⟨rfl, hb⟩; have HB2 := Lib.hid (below_then HB.out hb); clear hb)
          | (go_at_call 27; (with_reducible refine (HPA.out _ HB2.out).mono ?_); rintro e w3 ⟨rfl, hb⟩; have HB3 := Lib.hid (below_then HB2.out hb); clear hb)
          | (go_at_call 26; (with_reducible refine (HFD.out _ HB3.out).mono ?_); rintro e w4 ⟨rfl, hb⟩; have HB4 := Lib.hid (below_then HB3.out hb); clear hb))
        go_ret
        rw [HMN.out]
        exact MakeP.same HT.out HB4.out
      | some kk =>
        rw [hk2] at HFD hkd
        have hpos := kd_pos h.ok hk2
        simp only [Option.getD_some] at hkd
        rw [if_neg (by rw [hkd]; omega)] at hmn
        simp only [Option.isSome_some, if_true] at HFD
        by_cases hd1 : kk = 1
        · rw [if_neg (by rw [hkd]; simp; exact hd1), if_neg (by omega)] at hmn
          exact absurd hmn hn
        rw [if_pos (by rw [hkd]; exact hd1)] at hmn
        have HMN := Lib.hid hmn
        have HN := Lib.hid fun W (hW : Below w.heap.size w W) => (h.below hW).n (nms (dirL p)) kk hk2
        have d3 : (kk != 1) = true := by simpa using hd1
        clear hn h hm hkk hk hp hmn k1 k2 hkd hk2 hsp hla hpd hdl hd1 hpos
        go_enter Tryz.func15, Tryz.ntmps15
        go_wp2_with (first
          | (go_at_call 24; refine HIP.out.mono ?_; rintro e w1 ⟨rfl, hb⟩; have HB := Lib.hid hb; clear hb)
          | (go_at_call 26; (with_reducible refine (HF.out _ HB.out).mono ?_); rintro e w2 ⟨rfl, hb⟩; have HB2 := Lib.hid (below_then HB.out hb); clear hb)
          | (go_at_call 27; (with_reducible refine (HPA.out _ HB2.out).mono ?_); rintro e w3 ⟨rfl, hb⟩; have HB3 := Lib.hid (below_then HB2.out hb); clear hb)
          | (go_at_call 26; (with_reducible refine (HFD.out _ HB3.out).mono ?_); rintro e w4 ⟨rfl, hb⟩; have HB4 := Lib.hid (below_then HB3.out hb); obtain ⟨n1, n2, n3, n4, n5, n6⟩ := HN.out _ HB4.out; haveI : Old w4 (nb (nms (dirL p))) := ⟨n2⟩; clear hb n6))
        go_ret
        rw [HMN.out]
        exact MakeP.same HT.out HB4.out
end Go.Proofs.YtnecmpgcjgkheaaGreat.Fil
