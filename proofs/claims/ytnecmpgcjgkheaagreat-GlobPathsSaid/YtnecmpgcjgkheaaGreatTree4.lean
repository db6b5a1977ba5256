/-
  Trees of files, on: the walk of Make, where it makes. Conditions: paths of at most 2^30 bytes, fewer than 10000 files; the library's variable MaxLen holds some number.
-/
import Derived.Test.YtnecmpgcjgkheaaGreatTree3
set_option linter.unusedSimpArgs false
set_option linter.unusedVariables false
namespace Go.Proofs.YtnecmpgcjgkheaaGreat.Fil
open Go.ChangeShapes Go.WideShapes Go.Deep Go.RowKit Pat
set_option maxRecDepth 100000
/-- 'm[k] = v', where a run is known. -/
theorem wpList_mapUpdate_ex {P : Program} {w : World} {ops : Array Oper} {rest : List Oper} {o : Oper} {a : Act} {Q : Exit → Act → World → Prop} {Post : World → Prop} (hg : o.guard = none) (m x v : Operand) (t : TypeId) (hop : o.op = Op.mapUpdate t m x v)
    (mv kv vv : Value) (hm : a.eval m = mv) (hx : a.eval x = kv) (hv : a.eval v = vv) (hr : ∃ w', (Instr.mapUpdate t mv kv vv).run P w = .ok () w' ∧ Post w') (h : ∀ w', Post w' → wpList P ops Q rest (a.put o.dst undef) w') : wpList P ops Q (o :: rest) a w := by
  refine wpList_plain hg fun K' hK' => ?_
  obtain ⟨w', hrun, hp⟩ := hr
  unfold Oper.wp
  simp [execOp, hop, hm, hx, hv, hrun, Result.andThen]
  exact hK' _ _ (h w' hp)
/-- The tree's blocks behind a Make. -/
theorem inTree_made {tb B0 : Nat} {x : List Fl} {p : List UInt8} {k : Int} {nb : List (List UInt8) → Nat} {mp : List (List UInt8) → Option Nat} (hp : pathB p = true) (hne : p ≠ [47]) (hn : kd x (nms p) = none) {B : Nat} (hB : B0 ≤ B) :
    ∀ j, inTree tb (x ++ [⟨p, k⟩]) (fun ks => if ks = nms p then B else nb ks) (fun ks => if ks = nms p then none else mp ks) j → inTree tb x nb mp j ∨ B0 ≤ j := by
  intro j hj
  have hks := kd_snoc (k := k) hp hne hn
  rcases hj with rfl | ⟨ks, h1, h2⟩
  · exact .inl (.inl rfl)
  · rw [hks] at h1
    dsimp only at h2
    by_cases e : ks = nms p
    · rw [if_pos e] at h2
      rcases h2 with h2 | h2
      · exact .inr (by omega)
      · rw [if_pos e] at h2; cases h2
    · rw [if_neg e, if_neg e] at h2
      rw [if_neg e] at h1
      exact .inl (.inr ⟨ks, h1, h2⟩)
theorem inTree_mapped {tb B0 : Nat} {x : List Fl} {nb : List (List UInt8) → Nat} {mp : List (List UInt8) → Option Nat} {ds : List (List UInt8)} {B : Nat} (hB : B0 ≤ B) : ∀ j, inTree tb x nb (fun ks => if ks = ds then some B else mp ks) j → inTree tb x nb mp j ∨ B0 ≤ j := by
  intro j hj
  rcases hj with rfl | ⟨ks, h1, h2⟩
  · exact .inl (.inl rfl)
  · rcases h2 with h2 | h2
    · exact .inl (.inr ⟨ks, h1, .inl h2⟩)
    · dsimp only at h2
      by_cases e : ks = ds
      · rw [if_pos e] at h2; cases h2; exact .inr hB
      · rw [if_neg e] at h2; exact .inl (.inr ⟨ks, h1, .inr h2⟩)
set_option maxHeartbeats 6400000 in
theorem make_yes (w : World) (b0 tb : Nat) (x : List Fl) (nb : List (List UInt8) → Nat) (mp : List (List UInt8) → Option Nat) (p : List UInt8) (k : Int) (h : TreeAt w b0 tb x nb mp) (hm : MaxL w) (hl : p.length ≤ 1073741824) (hx : x.length < 10000) (hb0 : b0 ≤ w.heap.size) (hn : makeN x p k = 0) :
    Calls Tryz.prog 15 #[.pointer (some ⟨tb, 0, none⟩), .string (B p), .int .i64 k] w (MakeP b0 tb x (x ++ [⟨p, k⟩]) nb mp 0 w) := by
  have HIP := Lib.hid (isPath_any p w hm hl)
  have hmn : makeN x p k = if pathB p = true then (if k < 1 ∨ 3 < k then 8 else if kindL x p ≠ 0 then 6 else if kindL x (dirL p) = 0 then 3 else if kindL x (dirL p) ≠ 1 then 11 else if 10000 ≤ x.length then 12 else 0) else 10 := rfl
  rw [hn] at hmn
  have hp : pathB p = true := by
    cases hp : pathB p with
    | true => rfl
    | false => rw [hp, if_neg (by simp)] at hmn; cases hmn
  rw [hp, if_pos rfl] at hmn
  have hk12 : ¬ (k < 1 ∨ 3 < k) := fun q => by rw [if_pos q] at hmn; cases hmn
  rw [if_neg hk12] at hmn
  have hk0 : kindL x p = 0 := by
    by_cases q : kindL x p = 0
    · exact q
    · rw [if_pos q] at hmn; cases hmn
  rw [if_neg (by simp [hk0])] at hmn
  have hk := kd_kind h.ok hp
  rw [hk0] at hk
  have hkn : kd x (nms p) = none := by
    cases q : kd x (nms p) with
    | none => rfl
    | some kk => have := kd_pos h.ok q; rw [q] at hk; simp at hk; omega
  have hne : p ≠ [47] := fun q => by rw [q] at hkn; cases hkn
  obtain ⟨hpd, hsp, hla⟩ := nms_split hp hne
  have hd0 : kindL x (dirL p) ≠ 0 := fun q => by rw [if_pos q] at hmn; cases hmn
  rw [if_neg hd0] at hmn
  have hd1 : kindL x (dirL p) = 1 := by
    by_cases q : kindL x (dirL p) = 1
    · exact q
    · rw [if_pos q] at hmn; cases hmn
  have hkd := kd_kind h.ok hpd
  rw [hd1] at hkd
  have hds : kd x (nms (dirL p)) = some 1 := by
    cases q : kd x (nms (dirL p)) with
    | none => rw [q] at hkd; cases hkd
    | some kk => rw [q] at hkd; simp at hkd; rw [← hkd]
  have hdl : (dirL p).length ≤ 1073741824 := by
    unfold dirL
    split
    · simp
    · rw [List.length_take]; omega
  have HPA := Lib.hid fun W (hW : Below w.heap.size w W) => part_any p W (hm.below hW) hl
  unfold partV at HPA
  rw [hp, if_pos rfl] at HPA
  rw [hp] at HIP
  have HF := Lib.hid fun W (hW : Below w.heap.size w W) => find_any W b0 tb x nb mp p (h.below hW) (hm.below hW) hp hl
  have HFD := Lib.hid fun W (hW : Below w.heap.size w W) => find_any W b0 tb x nb mp (dirL p) (h.below hW) (hm.below hW) hpd hdl
  unfold nodeV ptrV at HF HFD
  rw [hkn] at HF
  rw [hds] at HFD
  simp only [Option.isSome_none, Bool.false_eq_true, if_false] at HF
  simp only [Option.isSome_some, if_true] at HFD
  have d1 := no (show ¬ k < 1 by omega)
  have d2 := no (show ¬ 3 < k by omega)
  have HN := Lib.hid fun W (hW : Below w.heap.size w W) => (h.below hW).n (nms (dirL p)) 1 hds
  have d4 := no (show ¬ (10000 : Int) ≤ (x.length : Int) by omega)
  have HT := Lib.hid h
  have hlt := h.lt
  have HIM := Lib.hid fun (B : Nat) (hB : w.heap.size ≤ B) (mp : List (List UInt8) → Option Nat) => inTree_made (tb := tb) (x := x) (p := p) (k := k) (nb := nb) (mp := mp) hp hne hkn hB
  cases hmp : mp (nms (dirL p)) with
  | some r =>
    have HMD := Lib.hid fun W (hW : Below w.heap.size w W) => (h.below hW).made (k := k) hp hne hkn hds rfl rfl hmp (by omega) (by omega) (by have := hW.size; omega) (by omega)
    have hnil := fun w => eqlSome r w
    have HIN : Hid (inTree tb x nb mp r) := .inr ⟨nms (dirL p), by rw [hds]; rfl, .inr hmp⟩
    clear h hm hk hp hmn hkd hk0 hd1 hd0 hkn hds hsp hla hpd hdl hk12 hne hn
    go_enter Tryz.func15, Tryz.ntmps15
    go_wp2_with (first
      | (go_at_call 24; refine HIP.out.mono ?_; rintro e w1 ⟨rfl, hb⟩; have HB := Lib.hid hb; clear hb)
      | (go_at_call 26; (with_reducible refine (HF.out _ HB.out).mono ?_); rintro e w2 ⟨rfl, hb⟩; have HB2 := Lib.hid (below_then HB.out hb); clear hb)
      | (go_at_call 27; (with_reducible refine (HPA.out _ HB2.out).mono ?_); rintro e w3 ⟨rfl, hb⟩; have HB3 := Lib.hid (below_then HB2.out hb); clear hb)
      | (go_at_call 26; (with_reducible refine (HFD.out _ HB3.out).mono ?_); rintro e w4 ⟨rfl, hb⟩; have HB4 := Lib.hid (below_then HB3.out hb); obtain ⟨n1, n2, n3, n4, n5, n6⟩ := HN.out _ HB4.out; rw [hmp] at n5; have ht := HT.out.below HB4.out; have t0 := ht.t0; have t1 := ht.t1; haveI : Old w4 tb := ⟨ht.lt⟩; haveI : Old w4 (nb (nms (dirL p))) := ⟨n2⟩; clear hb n6 ht)
      | (at_mapUpdate; refine wpList_mapUpdate_ex rfl (.tmp 58) (.tmp 59) (.tmp 62) 54 rfl _ _ _ rfl rfl rfl (HMD.out _ HB4.out) ?_; rintro w5 ⟨c5, f5, l5, k5, r5, tn5⟩; have HK5 := Lib.hid k5; have HTN := Lib.hid tn5; haveI : Old w5 tb := ⟨l5⟩; clear k5 tn5))
    go_ret
    have hz4 := HB4.out.size
    refine ⟨rfl, ⟨_, _, HTN.out, HIM.out _ hz4 mp⟩, ?_⟩
    exact ((Keeps.of_below (below_alloc HB4.out _)).trans (HK5.out.mono fun j _ e => by rw [e]; exact ⟨HIN.out, r5⟩)).trans (Keeps.setCell w5 ⟨.inl rfl, HT.out.ge⟩ _)
  | none =>
    have hnil := eqlNil
    have hmk := fun w => run_makeMap (P := Tryz.prog) 54 w
    have HMD := Lib.hid fun W (hW : Below w.heap.size w W) => by
      have hz : ((W.setCell ⟨nb (nms (dirL p)), 1, none⟩ (.map (some W.heap.size))).alloc (.map #[] 0)).heap.size = W.heap.size + 1 := by simp [World.setCell]
      have T2 := (h.below hW).mapped hds hmp (by have := hW.size; omega)
      haveI : Old W (nb (nms (dirL p))) := ⟨((h.below hW).n _ 1 hds).2.1⟩
      rw [setCell_alloc_lt] at T2
      have hmd := T2.made (k := k) hp hne hkn hds rfl rfl (if_pos rfl) (by omega) (by omega) (by rw [hz]; have := hW.size; omega) (by omega)
      rw [hz] at hmd
      exact hmd
    have HIN : Hid (inTree tb x nb mp (nb (nms (dirL p)))) := .inr ⟨nms (dirL p), by rw [hds]; rfl, .inl rfl⟩
    have hmpp := hmp
    clear h hm hk hp hmn hkd hk0 hd1 hd0 hkn hds hsp hla hpd hdl hk12 hne hn
    go_enter Tryz.func15, Tryz.ntmps15
    go_wp2_with (first
      | (go_at_call 24; refine HIP.out.mono ?_; rintro e w1 ⟨rfl, hb⟩; have HB := Lib.hid hb; clear hb)
      | (go_at_call 26; (with_reducible refine (HF.out _ HB.out).mono ?_); rintro e w2 ⟨rfl, hb⟩; have HB2 := Lib.hid (below_then HB.out hb); clear hb)
      | (go_at_call 27; (with_reducible refine (HPA.out _ HB2.out).mono ?_); rintro e w3 ⟨rfl, hb⟩; have HB3 := Lib.hid (below_then HB2.out hb); clear hb)
      | (go_at_call 26; (with_reducible refine (HFD.out _ HB3.out).mono ?_); rintro e w4 ⟨rfl, hb⟩; have HB4 := Lib.hid (below_then HB3.out hb); obtain ⟨n1, n2, n3, n4, n5, n6⟩ := HN.out _ HB4.out; rw [hmpp] at n5; have n61 := n6 1; have ht := HT.out.below HB4.out; have t0 := ht.t0; have t1 := ht.t1; haveI : Old w4 tb := ⟨ht.lt⟩; haveI : Old w4 (nb (nms (dirL p))) := ⟨n2⟩; clear hb n6 ht)
      | (at_mapUpdate; refine wpList_mapUpdate_ex rfl (.tmp 58) (.tmp 59) (.tmp 62) 54 rfl _ _ _ rfl rfl rfl (HMD.out _ HB4.out) ?_; rintro w5 ⟨c5, f5, l5, k5, r5, tn5⟩; have HK5 := Lib.hid k5; have HTN := Lib.hid tn5; haveI : Old w5 tb := ⟨l5⟩; clear k5 tn5))
    go_ret
    have hz4 := HB4.out.size
    refine ⟨rfl, ⟨_, _, HTN.out, fun j hj => ?_⟩, ?_⟩
    · rcases HIM.out _ (by omega) _ j hj with q | q
      · exact inTree_mapped hz4 j q
      · exact .inr q
    · have e1 : Keeps (fun j => inTree tb x nb mp j ∧ b0 ≤ j) w4 (w4.setCell ⟨nb (nms (dirL p)), 1, none⟩ (.map (some w4.heap.size))) := Keeps.setCell w4 ⟨HIN.out, n1⟩ _
      have e2 := e1.trans (Keeps.of_below (below_alloc (below_alloc (Below.refl _ _) (.map #[] 0)) (.cells #[.int .i64 k, .map none] 56)))
      have e3 : Keeps (fun j => (inTree tb x nb mp j ∧ b0 ≤ j) ∨ w4.heap.size ≤ j) w4 w5 := (e2.mono fun j _ q => .inl q).trans (HK5.out.mono fun j _ q => .inr (by omega))
      have e4 : Keeps (fun j => inTree tb x nb mp j ∧ b0 ≤ j) w4 w5 := ⟨e3.os, e3.tape, e3.output, e3.size, fun j hj hF => e3.block j hj (fun q => q.elim hF (fun z => by omega)), e3.ty⟩
      exact ((Keeps.of_below HB4.out).trans e4).trans (Keeps.setCell w5 ⟨.inl rfl, HT.out.ge⟩ _)
end Go.Proofs.YtnecmpgcjgkheaaGreat.Fil
