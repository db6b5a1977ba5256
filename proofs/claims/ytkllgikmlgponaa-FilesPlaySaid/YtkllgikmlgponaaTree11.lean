/-
  Trees of files, on: the walks of Remove and List. Conditions: paths of at most 2^30 bytes; at most 2^20 files; the library's variable MaxLen holds some number.
-/
import Derived.Test.YtkllgikmlgponaaTree10
namespace Go.Proofs.Ytkllgikmlgponaa.Fil
open Go.ChangeShapes Go.WideShapes Go.Deep Go.RowKit Pat
set_option maxRecDepth 100000
theorem lenNil (w : World) (ty : TypeId) : (Builtin.len_ #[104] ty #[.map none]).run Try.prog w = .ok (.int .i64 0) w :=
  Maps.len_nil Try.underlying104 ty
set_option maxHeartbeats 3200000 in
theorem remove_no (w : World) (b0 tb : Nat) (x : List Fl) (nb : List (List UInt8) → Nat) (mp : List (List UInt8) → Option Nat) (p : List UInt8) (h : TreeAt w b0 tb x nb mp) (hm : MaxL w) (hl : p.length ≤ 1073741824) (hn : rmN x p ≠ 0) :
    Calls Try.prog 39 #[.pointer (some ⟨tb, 0, none⟩), .string (B p)] w (MakeP b0 tb x x nb mp (rmN x p) w) := by
  have HIP := Lib.hid (isPath_any p w hm hl)
  have HT := Lib.hid h
  have hmn : rmN x p = if pathB p = true then (if kindL x p = 0 then 3 else if p = [47] ∨ (∃ f ∈ x, dirL f.path = p) then 11 else 0) else 10 := rfl
  generalize rmN x p = nn at *
  cases hp : pathB p with
  | false =>
    rw [hp] at HIP
    rw [hp, if_neg (by simp)] at hmn
    subst hmn
    clear hn h hm hp
    go_enter Try.func39, Try.ntmps39
    go_wp2_with (go_at_call 27; refine HIP.out.mono ?_; rintro e w1 ⟨rfl, hb⟩; have HB := Lib.hid hb; clear hb)
    go_ret
    exact MakeP.same HT.out HB.out
  | true =>
    rw [hp] at HIP
    rw [hp, if_pos rfl] at hmn
    have HF := Lib.hid fun W (hW : Below w.heap.size w W) => find_any W b0 tb x nb mp p (h.below hW) (hm.below hW) hp hl
    have hkk := kd_kind h.ok hp
    unfold nodeV at HF
    cases hk : kd x (nms p) with
    | none =>
      rw [hk] at HF hkk
      rw [if_pos (by rw [hkk]; rfl)] at hmn
      subst hmn
      simp only [Option.isSome_none, Bool.false_eq_true, if_false] at HF
      unfold ptrV at HF
      clear hn h hm hkk hk hp
      go_enter Try.func39, Try.ntmps39
      go_wp2_with (first | (go_at_call 27; refine HIP.out.mono ?_; rintro e w1 ⟨rfl, hb⟩; have HB := Lib.hid hb; clear hb) | (go_at_call 64; refine (HF.out _ HB.out).mono ?_; rintro e w2 ⟨rfl, hb⟩; have HB2 := Lib.hid (below_then HB.out hb); clear hb))
      go_ret
      exact MakeP.same HT.out HB2.out
    | some kk =>
      rw [hk] at HF hkk
      have hpos := kd_pos h.ok hk
      rw [if_neg (by rw [hkk]; simp; omega)] at hmn
      simp only [Option.isSome_some, if_true] at HF
      unfold ptrV at HF
      have HN := Lib.hid fun W (hW : Below w.heap.size w W) => (h.below hW).n (nms p) kk hk
      by_cases q1 : p = [47]
      · subst q1
        rw [if_pos (.inl rfl)] at hmn
        subst hmn
        clear hn h hm hkk hk hp
        go_enter Try.func39, Try.ntmps39
        go_wp2_with (first | (go_at_call 27; refine HIP.out.mono ?_; rintro e w1 ⟨rfl, hb⟩; have HB := Lib.hid hb; clear hb) | (go_at_call 64; refine (HF.out _ HB.out).mono ?_; rintro e w2 ⟨rfl, hb⟩; have HB2 := Lib.hid (below_then HB.out hb); clear hb))
        go_ret
        exact MakeP.same HT.out HB2.out
      · have q2 : (p == [47]) = false := by rw [beq_eq_false_iff_ne]; exact q1
        by_cases q3 : ∃ f ∈ x, dirL f.path = p
        · rw [if_pos (.inr q3)] at hmn
          subst hmn
          obtain ⟨f, hf, hd⟩ := q3
          have hkid := (mem_lasts h.ok hp (lastN f.path)).1 (List.mem_map.2 ⟨f, List.mem_filter.2 ⟨hf, by simpa using hd⟩, rfl⟩)
          cases hmp : mp (nms p) with
          | none => rw [h.k0 (nms p) (by rw [hk]; rfl) hmp] at hkid; cases hkid
          | some r =>
            have HK1 := Lib.hid fun W (hW : Below w.heap.size w W) => (h.below hW).k1 (nms p) r (by rw [hk]; rfl) hmp
            have HKID := Lib.hid hkid
            clear hn h hm hkk hk hp hf hd hkid q1
            go_enter Try.func39, Try.ntmps39
            go_wp2_with (first
              | (go_at_call 27; refine HIP.out.mono ?_; rintro e w1 ⟨rfl, hb⟩; have HB := Lib.hid hb; clear hb)
              | (go_at_call 64; refine (HF.out _ HB.out).mono ?_; rintro e w2 ⟨rfl, hb⟩; have HB2 := Lib.hid (below_then HB.out hb); obtain ⟨n1, n2, n3, n4, n5, n6⟩ := HN.out _ HB2.out; rw [hmp] at n5; haveI : Old w2 (nb (nms p)) := ⟨n2⟩; obtain ⟨_, c, hc, _⟩ := HK1.out _ HB2.out; have hlen := hc.len; have hc0 : 0 < c := (by
                  rcases hc.zero with ⟨_, z⟩ | ⟨z, _⟩
                  · have := z (lastN f.path)
                    unfold Fil.below at this
                    rw [if_pos HKID.out] at this
                    cases this
                  · exact z); have hc1 := yes (show (0 : Int) < (c : Int) by omega); clear hb n1 n3 n4 n6 hc))
            go_ret
            exact MakeP.same HT.out HB2.out
        · rw [if_neg (by rintro (z | z); exact q1 z; exact q3 z)] at hmn
          exact absurd hmn hn
theorem inTree_drop {tb : Nat} {x : List Fl} {p : List UInt8} {nb : List (List UInt8) → Nat} {mp : List (List UInt8) → Option Nat} (hp : pathB p = true) (hne : p ≠ [47]) : ∀ j, inTree tb (dropL x p) nb mp j → inTree tb x nb mp j := by
  intro j hj
  rcases hj with rfl | ⟨ks, h1, h2⟩
  · exact .inl rfl
  · rw [kd_drop hp ks hne] at h1
    by_cases e : ks = nms p
    · rw [if_pos e] at h1; cases h1
    · rw [if_neg e] at h1; exact .inr ⟨ks, h1, h2⟩
set_option maxHeartbeats 6400000 in
theorem remove_yes (w : World) (b0 tb : Nat) (x : List Fl) (nb : List (List UInt8) → Nat) (mp : List (List UInt8) → Option Nat) (p : List UInt8) (h : TreeAt w b0 tb x nb mp) (hm : MaxL w) (hl : p.length ≤ 1073741824) (hx : x.length ≤ 1048576) (hn : rmN x p = 0) :
    Calls Try.prog 39 #[.pointer (some ⟨tb, 0, none⟩), .string (B p)] w (MakeP b0 tb x (dropL x p) nb mp 0 w) := by
  have HIP := Lib.hid (isPath_any p w hm hl)
  have HT := Lib.hid h
  have hmn : rmN x p = if pathB p = true then (if kindL x p = 0 then 3 else if p = [47] ∨ (∃ f ∈ x, dirL f.path = p) then 11 else 0) else 10 := rfl
  rw [hn] at hmn
  have hp : pathB p = true := by
    cases hp : pathB p with
    | true => rfl
    | false => rw [hp, if_neg (by simp)] at hmn; cases hmn
  rw [hp, if_pos rfl] at hmn
  have hk0 : kindL x p ≠ 0 := fun q => by rw [if_pos q] at hmn; cases hmn
  rw [if_neg hk0] at hmn
  have hno2 : ¬ (p = [47] ∨ ∃ f ∈ x, dirL f.path = p) := fun q => by rw [if_pos q] at hmn; cases hmn
  have hne : p ≠ [47] := fun q => hno2 (.inl q)
  have hno : ∀ y, kd x (nms p ++ [y]) = none := fun y => by
    cases hq : kd x (nms p ++ [y]) with
    | none => rfl
    | some kk =>
      have := (mem_lasts h.ok hp y).2 (by rw [hq]; rfl)
      obtain ⟨f, hf, _⟩ := List.mem_map.1 this
      rw [List.mem_filter] at hf
      exact absurd (.inr ⟨f, hf.1, by simpa using hf.2⟩) hno2
  have hkk := kd_kind h.ok hp
  obtain ⟨kk, hk⟩ : ∃ kk, kd x (nms p) = some kk := by
    cases hq : kd x (nms p) with
    | none => rw [hq] at hkk; exact absurd hkk hk0
    | some kk => exact ⟨kk, rfl⟩
  obtain ⟨hpd, hsp, hla⟩ := nms_split hp hne
  have hds : kd x (nms (dirL p)) = some 1 := h.ok.u _ (lastN p) (by rw [← hsp, hk]; rfl)
  have hdl : (dirL p).length ≤ 1073741824 := by
    unfold dirL
    split
    · simp
    · rw [List.length_take]; omega
  have HPA := Lib.hid fun W (hW : Below w.heap.size w W) => part_any p W (hm.below hW) hl
  unfold partV at HPA
  rw [hp, if_pos rfl] at HPA
  rw [hp] at HIP
  have HF := Lib.hid fun W (hW : Below w.heap.size w W) => find_any W b0 tb x nb mp p (h.below hW) (hm.below hW) hp hl
  have HFD := Lib.hid fun W (hW : Below w.heap.size w W) => find_any W b0 tb x nb mp (dirL p) (h.below hW) (hm.below hW) hpd hdl
  unfold nodeV ptrV at HF HFD
  rw [hk] at HF
  rw [hds] at HFD
  simp only [Option.isSome_some, if_true] at HF HFD
  have HN := Lib.hid fun W (hW : Below w.heap.size w W) => (h.below hW).n (nms p) kk hk
  have HND := Lib.hid fun W (hW : Below w.heap.size w W) => (h.below hW).n (nms (dirL p)) 1 hds
  have hlt := h.lt
  have q2 : (p == [47]) = false := by rw [beq_eq_false_iff_ne]; exact hne
  have HID := Lib.hid (inTree_drop (tb := tb) (x := x) (nb := nb) (mp := mp) hp hne)
  have HK1 := Lib.hid fun W (hW : Below w.heap.size w W) r hr => (h.below hW).k1 (nms p) r (by rw [hk]; rfl) hr
  have HNO := Lib.hid hno
  cases hmp : mp (nms (dirL p)) with
  | none => have := h.k0 (nms (dirL p)) (by rw [hds]; rfl) hmp (lastN p); rw [← hsp, hk] at this; cases this
  | some r =>
  have HMD := Lib.hid fun ty W (hW : Below w.heap.size w W) => (h.below hW).removed ty hp hne hk rfl rfl hmp hno
  have HLN : Hid (∀ W, Below w.heap.size w W → ∀ ty, (Builtin.len_ #[104] ty #[.map (mp (nms p))]).run Try.prog W = .ok (.int .i64 0) W) := fun W hW ty => by
    cases hq : mp (nms p) with
    | none => exact lenNil W ty
    | some r' =>
      obtain ⟨_, c, hc, _⟩ := HK1.out W hW r' hq
      rcases hc.zero with ⟨z, _⟩ | ⟨_, a, z⟩
      · subst z; exact hc.len ty
      · unfold Fil.below at z
        rw [hno a] at z
        cases z
  clear h hm hp hmn hkk hk0 hno hno2 hds hsp hla hpd hdl hne hn hk
  go_enter Try.func39, Try.ntmps39
  go_wp2_with (first
    | (go_at_call 27; refine HIP.out.mono ?_; rintro e w1 ⟨rfl, hb⟩; have HB := Lib.hid hb; clear hb)
    | (go_at_call 64; (with_reducible refine (HF.out _ HB.out).mono ?_); rintro e w2 ⟨rfl, hb⟩; have HB2 := Lib.hid (below_then HB.out hb); obtain ⟨n1, n2, n3, n4, n5, n6⟩ := HN.out _ HB2.out; haveI : Old w2 (nb (nms p)) := ⟨n2⟩; have hlen := HLN.out _ HB2.out; clear hb n1 n3 n4 n6)
    | (go_at_call 25; (with_reducible refine (HPA.out _ HB2.out).mono ?_); rintro e w3 ⟨rfl, hb⟩; have HB3 := Lib.hid (below_then HB2.out hb); clear hb)
    | (go_at_call 64; (with_reducible refine (HFD.out _ HB3.out).mono ?_); rintro e w4 ⟨rfl, hb⟩; have HB4 := Lib.hid (below_then HB3.out hb); obtain ⟨n1', n2', n3', n4', n5', n6'⟩ := HND.out _ HB4.out; rw [hmp] at n5'; haveI : Old w4 (nb (nms (dirL p))) := ⟨n2'⟩; clear hb n1' n3' n4' n6')
    | (at_delete; refine wpList_delete_ex rfl (.tmp 36) (.tmp 37) 104 9 rfl _ _ rfl rfl (HMD.out _ _ HB4.out) ?_; rintro w5 ⟨c5, f5, l5, c50, k5, r5, i5, tn5⟩; have HK5 := Lib.hid k5; have HTN := Lib.hid tn5; have HR5 := Lib.hid r5; have HI5 := Lib.hid i5; haveI : Old w5 tb := ⟨l5⟩; clear k5 tn5 r5 i5))
  go_ret
  refine ⟨rfl, ⟨_, _, HTN.out, fun j hj => .inl (HID.out j hj)⟩, ?_⟩
  exact ((Keeps.of_below HB4.out).trans (HK5.out.mono fun j _ e => by rw [e]; exact ⟨HI5.out, HR5.out⟩)).trans (Keeps.setCell w5 ⟨.inl rfl, HT.out.ge⟩ _)
theorem remove_any (w : World) (b0 tb : Nat) (x : List Fl) (nb : List (List UInt8) → Nat) (mp : List (List UInt8) → Option Nat) (p : List UInt8) (h : TreeAt w b0 tb x nb mp) (hm : MaxL w) (hl : p.length ≤ 1073741824) (hx : x.length ≤ 1048576) :
    Calls Try.prog 39 #[.pointer (some ⟨tb, 0, none⟩), .string (B p)] w (MakeP b0 tb x (rmL x p) nb mp (rmN x p) w) := by
  unfold rmL
  by_cases hn : rmN x p = 0
  · rw [if_pos hn, hn]
    exact remove_yes w b0 tb x nb mp p h hm hl hx hn
  · rw [if_neg hn]
    exact remove_no w b0 tb x nb mp p h hm hl hn
end Go.Proofs.Ytkllgikmlgponaa.Fil
