/-
  The walks of layer 16 (pattern): Heads, Tails. Conditions: texts of at most 2^30 bytes; the library's variable MaxLen holds some number.
-/
import Derived.Test.YtnecmpgcjgkheaaGreatGlob8
import Derived.Test.YtnecmpgcjgkheaaGreatGlob7
import Derived.Test.YtnecmpgcjgkheaaGreatTreePlain3
import Derived.Test.YtnecmpgcjgkheaaGreatPat19
import Derived.Test.YtnecmpgcjgkheaaGreatPat22
set_option linter.unusedSimpArgs false
set_option linter.unusedVariables false
namespace Go.Proofs.YtnecmpgcjgkheaaGreat.Glob
open Go.ChangeShapes Go.WideShapes Go.Deep Go.RowKit Fil Pat
/-- What awake tells. -/
theorem aw_glob : pathsG [⟨[47, 97], 1⟩, ⟨[47, 97, 47, 120, 46, 99], 2⟩, ⟨[47, 97, 47, 121, 46, 99], 2⟩, ⟨[47, 97, 47, 122, 46, 104], 2⟩] [47] [97, 47, 42, 46, 99] = [[97, 47, 120, 46, 99], [97, 47, 121, 46, 99]] := by decide +kernel
end Go.Proofs.YtnecmpgcjgkheaaGreat.Glob
namespace Go.Proofs.YtnecmpgcjgkheaaGreat.Glob
open Go.ChangeShapes Go.WideShapes Go.Deep Go.RowKit Fil Pat
set_option maxRecDepth 100000
theorem two_at (s : List UInt8) (j : Nat) (h : j + 1 < s.length) : (s.take (j + 2)).drop j = [s[j], s[j + 1]] := by
  rw [List.take_succ_eq_append_getElem h, List.drop_append_of_le_length (by simp; omega), one_at s j (by omega)]
  rfl
set_option maxHeartbeats 3200000 in
theorem refPartsG_any (p : List UInt8) (w : World) (hp : p.length ≤ 1048576) : Calls Tryz.prog 17 #[.string (B p)] w (StrP (partsG p) w) := by
  obtain ⟨i0, hi0, hz00, hz01, hz02⟩ := info_parts info_str
  go_enter Tryz.func17, Tryz.ntmps17
  go_wp2
  go_loopw [3, 4, 5] (fun o t i w' => ∃ (v : Value) (u : List UInt8) (ns : List (List UInt8)) (k : Nat), v = o ∧ t = .string (B u) ∧ u.length ≤ k ∧ ns.length ≤ k ∧ k ≤ p.length ∧ i = .int .i64 k ∧ Hid (partsG p = ns ++ Fil.pre u (partsG (p.drop k))) ∧ Hid (Own w' w.heap.size 1 v ns.length (ns.flatMap strC)) ∧ Hid (Below w.heap.size w w')) (fun _ _ i _ => p.length - (intOf i).toNat)
  case atStart => exact ⟨_, [], [], 0, rfl, rfl, by simp, by simp, by omega, rfl, by show _ = _; rw [pre_nil]; rfl, Own.nil _ _ _, Below.refl _ _⟩
  case round =>
    obtain ⟨v, u, ns, k, rfl, rfl, hu, hnl, hk, rfl, HP, HO, HB⟩ := hrel
    have hbs := HB.out.size
    by_cases hlt : k < p.length
    · have k0 : (0 : Int) ≤ (k : Int) := by omega
      have k1 : (k : Int) < (p.length : Int) := by omega
      have h1t := one_at p k hlt
      have HG := Lib.hid (List.getElem?_eq_getElem hlt)
      have hul : ((u.length : Int) + 1) ≤ 9223372036854775807 := by omega
      have hul2 : ((u.length : Int) + 2) ≤ 9223372036854775807 := by omega
      by_cases c1 : p[k] = 92 ∧ k + 1 < p.length
      · obtain ⟨c1, hl2⟩ := c1
        have e1 := Pat.is_b (n := 92) rfl c1
        have k2 : (0 : Int) ≤ (k : Int) + 1 := by omega
        have k3 : (k : Int) + 1 < (p.length : Int) := by omega
        have HG2 := Lib.hid (List.getElem?_eq_getElem hl2)
        have h2t := two_at p k hl2
        have HC1 := Lib.hid c1
        by_cases c2 : p[k + 1] = 47
        · have e2 := Pat.is_b (n := 47) rfl c2
          have HP2 := Lib.hid (show partsG p = (ns ++ [u]) ++ Fil.pre [] (partsG (p.drop (k + 2))) by rw [HP.out, pg_esc47 (HC1.out ▸ HG.out) (c2 ▸ HG2.out)]; simp)
          clear c1 c2 h1t h2t hul hul2
          go_wp2_with ((at_builtin; refine wpList_append_src _ rfl (.tmp 54) (.tmp 56) _ rfl w.heap.size 9 i0 _ 1 16 Tryz.underlying26 hi0 hz00 hz01 hz02 rfl (by decide) _ ns.length (ns.flatMap strC) rfl (HO.out.below (by (repeat (first | exact Below.refl _ _ | assumption | with_reducible refine below_alloc ?_ _ | with_reducible refine below_grow ?_ _ | with_reducible refine below_drewN ?_ _ | with_reducible refine below_drew ?_ | with_reducible refine below_setCell ?_ (by first | (dsimp only; omega) | (simp; done) | (simp; omega)) _)))) _ 1 (strC u) rfl rfl (Src.one _ _ _ _) (by simp [strC, Value.oneCell']) (by unfold maxLen; omega) (by omega) (by first | (simp; done) | omega | (simp; omega)) ?_; intro v2 w2 hown2 hg2 hat2 hty2; have HTY2 := Lib.hid hty2; clear hty2); have HO2 := Lib.hid hown2; have HB2 := Lib.hid (below_keeps (below_then HB.out (below_alloc (Below.refl _ _) _)) hg2 (fun k hk => hk.2)); clear hown2 hg2 hat2)
          go_roundw
          case rel => exact ⟨v2, [], ns ++ [u], k + 2, rfl, rfl, by simp, by simp; omega, by omega, by go_num, HP2.out, by show Own _ _ _ _ _ _; simpa [List.flatMap_append] using HO2.out, HB2.out⟩
          case measure => simp [intOf]; omega
        · have e2 := Pat.not_b (n := 47) rfl c2
          have e3 := Pat.not_nb (n := 47) rfl c2
          have HP2 := Lib.hid (show partsG p = ns ++ Fil.pre (u ++ [92, p[k + 1]]) (partsG (p.drop (k + 2))) by rw [HP.out, pg_esc (HC1.out ▸ HG.out) HG2.out c2])
          have h2u : (p.take (k + 2)).drop k = [92, p[k + 1]] := by rw [h2t, c1]
          clear c1 c2 h1t h2t
          go_wp2
          go_roundw
          case rel => exact ⟨v, u ++ [92, p[k + 1]], ns, k + 2, rfl, by simp [h2u], by simp; omega, by omega, by omega, by go_num, HP2.out, HO.out, HB.out⟩
          case measure => simp [intOf]; omega
      · have d1 : p[k] = 92 → decide ((k : Int) + 1 < (p.length : Int)) = false := fun e => no (by have : ¬ k + 1 < p.length := fun q => c1 ⟨e, q⟩; omega)
        have hbyte := fun (c2 : p[k] ≠ 47) => pg_byte (h := u) HG.out c2 (fun e => List.getElem?_eq_none_iff.2 (Nat.le_of_not_lt fun q => c1 ⟨e, q⟩))
        by_cases c2 : p[k] = 47
        · have e1 := Pat.not_b (n := 92) (k := 92) rfl (show ¬ p[k] = 92 by rw [c2]; decide)
          have e2 := Pat.is_b (n := 47) rfl c2
          have HP2 := Lib.hid (show partsG p = (ns ++ [u]) ++ Fil.pre [] (partsG (p.drop (k + 1))) by rw [HP.out, pg_47 (c2 ▸ HG.out)]; simp)
          clear c1 c2 h1t hbyte d1
          go_wp2_with ((at_builtin; refine wpList_append_src _ rfl (.tmp 54) (.tmp 56) _ rfl w.heap.size 9 i0 _ 1 16 Tryz.underlying26 hi0 hz00 hz01 hz02 rfl (by decide) _ ns.length (ns.flatMap strC) rfl (HO.out.below (by (repeat (first | exact Below.refl _ _ | assumption | with_reducible refine below_alloc ?_ _ | with_reducible refine below_grow ?_ _ | with_reducible refine below_drewN ?_ _ | with_reducible refine below_drew ?_ | with_reducible refine below_setCell ?_ (by first | (dsimp only; omega) | (simp; done) | (simp; omega)) _)))) _ 1 (strC u) rfl rfl (Src.one _ _ _ _) (by simp [strC, Value.oneCell']) (by unfold maxLen; omega) (by omega) (by first | (simp; done) | omega | (simp; omega)) ?_; intro v2 w2 hown2 hg2 hat2 hty2; have HTY2 := Lib.hid hty2; clear hty2); have HO2 := Lib.hid hown2; have HB2 := Lib.hid (below_keeps (below_then HB.out (below_alloc (Below.refl _ _) _)) hg2 (fun k hk => hk.2)); clear hown2 hg2 hat2)
          go_roundw
          case rel => exact ⟨v2, [], ns ++ [u], k + 1, rfl, rfl, by simp, by simp; omega, by omega, by go_num, HP2.out, by show Own _ _ _ _ _ _; simpa [List.flatMap_append] using HO2.out, HB2.out⟩
          case measure => simp [intOf]; omega
        · have e2 := Pat.not_b (n := 47) rfl c2
          have HP2 := Lib.hid (show partsG p = ns ++ Fil.pre (u ++ [p[k]]) (partsG (p.drop (k + 1))) by rw [HP.out, hbyte c2])
          by_cases c3 : p[k] = 92
          · have e1 := Pat.is_b (n := 92) rfl c3
            have d2 := d1 c3
            clear c1 c2 c3 hbyte d1
            go_wp2
            go_roundw
            case rel => exact ⟨v, u ++ [p[k]], ns, k + 1, rfl, by simp [h1t], by simp; omega, by omega, by omega, by go_num, HP2.out, HO.out, HB.out⟩
            case measure => simp [intOf]; omega
          · have e1 := Pat.not_b (n := 92) rfl c3
            clear c1 c2 c3 hbyte d1
            go_wp2
            go_roundw
            case rel => exact ⟨v, u ++ [p[k]], ns, k + 1, rfl, by simp [h1t], by simp; omega, by omega, by omega, by go_num, HP2.out, HO.out, HB.out⟩
            case measure => simp [intOf]; omega
    · have hk2 : k = p.length := by omega
      subst hk2
      have d0 := no hlt
      have hp := HP.out
      rw [pg_end (Nat.le_refl _)] at hp
      have HP2 := Lib.hid hp
      clear hlt hp
      go_wp2_with ((at_builtin; refine wpList_append_src _ rfl (.tmp 67) (.tmp 69) _ rfl w.heap.size 9 i0 _ 1 16 Tryz.underlying26 hi0 hz00 hz01 hz02 rfl (by decide) _ ns.length (ns.flatMap strC) rfl (HO.out.below (by (repeat (first | exact Below.refl _ _ | assumption | with_reducible refine below_alloc ?_ _ | with_reducible refine below_grow ?_ _ | with_reducible refine below_drewN ?_ _ | with_reducible refine below_drew ?_ | with_reducible refine below_setCell ?_ (by first | (dsimp only; omega) | (simp; done) | (simp; omega)) _)))) _ 1 (strC u) rfl rfl (Src.one _ _ _ _) (by simp [strC, Value.oneCell']) (by unfold maxLen; omega) (by omega) (by first | (simp; done) | omega | (simp; omega)) ?_; intro v2 w2 hown2 hg2 hat2 hty2; have HTY2 := Lib.hid hty2; clear hty2); have HO2 := Lib.hid hown2; have HB2 := Lib.hid (below_keeps (below_then HB.out (below_alloc (Below.refl _ _) _)) hg2 (fun k hk => hk.2)); clear hown2 hg2 hat2)
      go_ret
      exact ⟨v2, rfl, by rw [HP2.out]; simpa [List.flatMap_append] using HO2.out, HB2.out⟩
set_option maxHeartbeats 1600000 in
theorem same22 (xs ys : List (List UInt8)) (u v : Value) (w : World) (hu : Sl w strC 1 u xs) (hv : Sl w strC 1 v ys) :
    Calls Tryz.prog 6 #[u, v] w fun e w' => e = .returned (.bool (xs == ys)) ∧ Below w.heap.size w w' := by
  obtain ⟨A, c, rfl, hc1, hc2, hn, hA⟩ := hu
  obtain ⟨A', c', rfl, hc1', hc2', hn', hA'⟩ := hv
  have HA := Lib.hid hA
  have HA' := Lib.hid hA'
  clear hA hA' hn hn'
  by_cases hl : xs.length = ys.length
  · have Hl := Lib.hid hl
    have hl1 : ((xs.length : Int) != (ys.length : Int)) = false := by simp [hl]
    clear hl
    go_enter Tryz.func6, Tryz.ntmps6
    go_wp2
    clear hl1
    go_loopw [5] (fun i w' => ∃ k : Nat, k ≤ xs.length ∧ i = .int .i64 k ∧ Hid (xs.take k = ys.take k) ∧ Drew w w') (fun i _ => xs.length - (intOf i).toNat)
    case atStart => exact ⟨0, by omega, rfl, rfl, .refl _⟩
    case round =>
      obtain ⟨k, hk, rfl, Heq, m, rfl⟩ := hrel
      by_cases hlt : k < xs.length
      · have hlt' : k < ys.length := by have := Hl.out; omega
        obtain ⟨b, off, rfl, hb, hc⟩ := HA.out (by omega)
        obtain ⟨b', off', rfl, hb', hc'⟩ := HA'.out (by omega)
        have e0 : w.cell? ⟨b, off + k, none⟩ = some (.string (B xs[k])) := by have := hc k _ (List.getElem?_eq_getElem hlt) 0 _ rfl; simpa using this
        have e1 : w.cell? ⟨b', off' + k, none⟩ = some (.string (B ys[k])) := by have := hc' k _ (List.getElem?_eq_getElem hlt') 0 _ rfl; simpa using this
        clear hc hc'
        have ht1 : xs.take (k + 1) = xs.take k ++ [xs[k]] := by rw [List.take_succ_eq_append_getElem hlt]
        have ht2 : ys.take (k + 1) = ys.take k ++ [ys[k]] := by rw [List.take_succ_eq_append_getElem hlt']
        have HT := Lib.hid (And.intro ht1 ht2)
        clear ht1 ht2
        have hi0 : (0 : Int) ≤ (k : Int) := by omega
        have hi1 : (k : Int) < (xs.length : Int) := by omega
        have hi2 : (k : Int) < (ys.length : Int) := by omega
        by_cases hx : xs[k] = ys[k]
        · have Hx := Lib.hid hx
          have hx' : (xs[k] == ys[k]) = true := by simpa using hx
          clear hx
          go_wp2
          go_quiet (fail)
          go_wp2
          go_roundw
          case rel => exact ⟨k + 1, by omega, by go_num, by have h := HT.out; show _ = _; rw [h.1, h.2, Heq.out, Hx.out], m + nq, rfl⟩
          case measure => simp [intOf]; omega
        · have hx' : (xs[k] == ys[k]) = false := by simpa using hx
          have Hx := Lib.hid hx
          clear hx
          go_wp2
          go_quiet (fail)
          go_wp2
          go_ret
          refine ⟨?_, by (repeat (first | exact Below.refl _ _ | assumption | with_reducible refine below_alloc ?_ _ | with_reducible refine below_grow ?_ _ | with_reducible refine below_drewN ?_ _ | with_reducible refine below_drew ?_ | with_reducible refine below_setCell ?_ (by first | (dsimp only; omega) | (simp; done) | (simp; omega)) _))⟩
          have : (xs == ys) = false := by
            rw [beq_eq_false_iff_ne]
            intro e
            subst e
            exact Hx.out rfl
          rw [this]; rfl
      · have hk' : k = xs.length := by omega
        have HK := Lib.hid hk'
        clear hk'
        go_wp2
        go_ret
        refine ⟨?_, by (repeat (first | exact Below.refl _ _ | assumption | with_reducible refine below_alloc ?_ _ | with_reducible refine below_grow ?_ _ | with_reducible refine below_drewN ?_ _ | with_reducible refine below_drew ?_ | with_reducible refine below_setCell ?_ (by first | (dsimp only; omega) | (simp; done) | (simp; omega)) _))⟩
        have h1 := Heq.out
        rw [HK.out, List.take_length, Hl.out, List.take_length] at h1
        have : (xs == ys) = true := by rw [h1]; simp
        rw [this]; rfl
  · have hl1 : ((xs.length : Int) != (ys.length : Int)) = true := by simp; omega
    have : (xs == ys) = false := by
      rw [beq_eq_false_iff_ne]
      intro e
      exact hl (by rw [e])
    rw [this]
    clear hl this
    go_enter Tryz.func6, Tryz.ntmps6
    go_wp2
    go_ret
    exact ⟨rfl, by (repeat (first | exact Below.refl _ _ | assumption | with_reducible refine below_alloc ?_ _ | with_reducible refine below_grow ?_ _ | with_reducible refine below_drewN ?_ _ | with_reducible refine below_drew ?_ | with_reducible refine below_setCell ?_ (by first | (dsimp only; omega) | (simp; done) | (simp; omega)) _))⟩
end Go.Proofs.YtnecmpgcjgkheaaGreat.Glob
namespace Go.Proofs.YtnecmpgcjgkheaaGreat.Glob
open Go.ChangeShapes Go.WideShapes Go.Deep Go.RowKit Fil Pat
set_option maxRecDepth 100000
def fewB (l : List Fl) : Bool := decide (l.length ≤ 20) && l.all fun f => decide (f.path.length ≤ 100)
set_option maxHeartbeats 1600000 in
theorem few_any (l : List Fl) (v : Value) (w : World) (h : Sl w flC 2 v l) : Calls Tryz.prog 5 #[v] w fun e w' => e = .returned (.bool (fewB l)) ∧ Below w.heap.size w w' := by
  obtain ⟨A, c, rfl, hc1, hc2, hn, hA⟩ := h
  have HA := Lib.hid hA
  clear hA hn
  by_cases l1 : 20 < l.length
  · have HE := Lib.hid (show fewB l = false by unfold fewB; rw [decide_eq_false (by omega), Bool.false_and])
    go_enter Tryz.func5, Tryz.ntmps5
    go_wp2
    go_ret
    exact ⟨by rw [HE.out]; rfl, Below.refl _ _⟩
  have c1 := no (show ¬ (20 : Int) < (l.length : Int) by omega)
  have HL := Lib.hid l1
  clear l1
  go_enter Tryz.func5, Tryz.ntmps5
  go_wp2
  go_loopw [3] (fun i w' => ∃ k : Nat, k ≤ l.length ∧ i = .int .i64 k ∧ Hid (∀ f ∈ l.take k, f.path.length ≤ 100) ∧ w = w') (fun i _ => l.length - (intOf i).toNat)
  case atStart => exact ⟨0, by omega, rfl, fun f hf => by simp at hf, rfl⟩
  case round =>
    obtain ⟨k, hk, rfl, HT, rfl⟩ := hrel
    by_cases hlt : k < l.length
    · obtain ⟨b, off, rfl, hb, hc⟩ := HA.out (by omega)
      obtain ⟨x, hxm⟩ := get_some hlt
      have e0 : w.cell? ⟨b, off + k * 2, none⟩ = some (.string (B x.path)) := by have := hc k _ hxm 0 _ rfl; simpa using this
      haveI : Old w b := ⟨hb⟩
      have k0 : (0 : Int) ≤ (k : Int) := by omega
      have k1 : (k : Int) < (l.length : Int) := by omega
      have HXM := Lib.hid hxm
      clear hc hxm
      by_cases n1 : 100 < x.path.length
      · have HE := Lib.hid (show fewB l = false by
          unfold fewB
          rw [Bool.and_eq_false_iff]
          right
          rw [List.all_eq_false]
          exact ⟨x, List.mem_of_getElem? HXM.out, by simp; omega⟩)
        go_wp2
        go_ret
        exact ⟨by rw [HE.out]; rfl, Below.refl _ _⟩
      · have q1 := no (show ¬ (100 : Int) < (x.path.length : Int) by omega)
        have HN := Lib.hid n1
        clear n1
        go_wp2
        go_roundw
        case rel =>
          refine ⟨k + 1, by omega, by go_num, fun f hf => ?_, trivial⟩
          rw [List.take_add_one, HXM.out] at hf
          rcases List.mem_append.1 hf with hf | hf
          · exact HT.out f hf
          · obtain rfl : f = x := by simpa using hf
            have := HN.out
            omega
        case measure => simp [intOf]; omega
    · have hk2 : k = l.length := by omega
      subst hk2
      have d0 := no hlt
      have ht := HT.out
      rw [List.take_length] at ht
      have HE := Lib.hid (show fewB l = true by
        unfold fewB
        rw [Bool.and_eq_true, decide_eq_true_eq, List.all_eq_true]
        exact ⟨by have := HL.out; omega, fun f hf => by simpa using ht f hf⟩)
      clear hlt ht
      go_wp2
      go_ret
      exact ⟨by rw [HE.out]; rfl, Below.refl _ _⟩
def awF : List Fl := [⟨[47, 97], 1⟩, ⟨[47, 97, 47, 120, 46, 99], 2⟩, ⟨[47, 97, 47, 121, 46, 99], 2⟩, ⟨[47, 97, 47, 122, 46, 104], 2⟩]
theorem awF_of : ofF awF = awF := by kernel_rfl
theorem aw_sl {W : World} {b : Nat} (h : BoxN W b (awF.flatMap flC)) : Sl W flC 2 (.slice (some ⟨b, 0, none⟩) 4 4) awF := by
  refine ⟨_, 4, rfl, by decide, by decide, by simp, fun _ => ⟨b, 0, rfl, h.lt, fun k x hx j u hj => ?_⟩⟩
  rw [Nat.zero_add]
  exact h.c _ _ (flat_at awF flC_len k x hx j u hj)
set_option maxHeartbeats 1600000 in
theorem awake27_any (w : World) (hm : MaxL w) : Calls Tryz.prog 4 #[] w fun e w' => e = .returned (.bool true) ∧ Below w.heap.size w w' := by
  have HO := Lib.hid fun W (hW : Below w.heap.size w W) (v : Value) (h : Sl W flC 2 v awF) => of_any awF v W h (hm.below hW) (by decide) (by decide)
  unfold OfP at HO
  rw [awF_of] at HO
  have HG := Lib.hid fun W (hW : Below w.heap.size w W) (b0 tb : Nat) nb mp (h : TreeAt W b0 tb awF nb mp) => globPaths_any W b0 tb awF nb mp [47] [97, 47, 42, 46, 99] h (hm.below hW) (by decide) (by decide) (by decide) (by decide) (by decide +kernel)
  rw [show pathsG awF [47] [97, 47, 42, 46, 99] = [[97, 47, 120, 46, 99], [97, 47, 121, 46, 99]] from aw_glob] at HG
  have HB := Lib.hid (below_alloc (Below.refl w.heap.size w) (.cells #[.string (B [47, 97]), .int .i64 1, .string (B [47, 97, 47, 120, 46, 99]), .int .i64 2, .string (B [47, 97, 47, 121, 46, 99]), .int .i64 2, .string (B [47, 97, 47, 122, 46, 104]), .int .i64 2] 34))
  have HS : Hid (Sl (w.alloc (.cells #[.string (B [47, 97]), .int .i64 1, .string (B [47, 97, 47, 120, 46, 99]), .int .i64 2, .string (B [47, 97, 47, 121, 46, 99]), .int .i64 2, .string (B [47, 97, 47, 122, 46, 104]), .int .i64 2] 34)) flC 2 (.slice (some ⟨w.heap.size, 0, none⟩) 4 4) awF) := Lib.hid (aw_sl (BoxN.new w (awF.flatMap flC) 34))
  go_enter Tryz.func4, Tryz.ntmps4
  go_wp2_with (first
    | (go_at_call 8; (with_reducible refine (HO.out _ HB.out _ HS.out).mono ?_); rintro e w1 ⟨rfl, ⟨nb, mp, ht⟩, hb⟩; rw [World.size_alloc] at ht; have HT := Lib.hid ht; have HB1 := Lib.hid (below_then HB.out hb); clear ht hb)
    | (go_at_call 7; go_loud ((with_reducible refine (HG.out _ HB1.out _ _ nb mp HT.out).mono ?_); rintro e w2 ⟨v, rfl, ho, hb⟩; obtain ⟨g, off, c, rfl, hg, hg2, -, -⟩ := ho.form' (by decide); obtain ⟨-, -, c0⟩ := own_str ho (k := 0) rfl; obtain ⟨-, -, c1⟩ := own_str ho (k := 1) rfl; rw [Nat.add_zero] at c0; haveI : Old w2 g := ⟨hg2⟩; have HB2 := Lib.hid (below_then HB1.out hb); clear ho hb hg)))
  go_ret
  exact ⟨rfl, HB2.out⟩
end Go.Proofs.YtnecmpgcjgkheaaGreat.Glob
namespace Go.Proofs.YtnecmpgcjgkheaaGreat.Pat
open Go.ChangeShapes Go.WideShapes Go.Deep Go.RowKit
set_option maxRecDepth 100000
end Go.Proofs.YtnecmpgcjgkheaaGreat.Pat
