/-
  The walks of layer 30 (hist), on: Add, Lines, New, and the reference's Add. Conditions: at most 2^20 lines.
-/
import Derived.Test.YteojepadhonbiaaHist
namespace Go.Proofs.Yteojepadhonbiaa
open Go.ChangeShapes Go.WideShapes Go.Deep Go.RowKit
/-- The lines, when one more was given. -/
def addL (xs : List (List UInt8)) (line : List UInt8) (most : Nat) : List (List UInt8) :=
  if wantB xs line then (if most < xs.length + 1 then (xs ++ [line]).drop 1 else xs ++ [line]) else xs
theorem lines_any (w : World) (b0 hb : Nat) (lv : Value) (most : Int) (xs : List (List UInt8)) (h : HistAt w b0 hb lv most xs) (hx : xs.length ≤ 1048576) :
    Calls Try.prog 82 #[.pointer (some ⟨hb, 0, none⟩)] w (ClonePost xs w) := by
  have hs : Sl w strC 1 lv xs := h.own.sl strC_len rfl
  have HC := Lib.hid (clone_str xs lv w hs (by omega))
  obtain ⟨lt, ge, c0, c1, f0, own, ne⟩ := h
  clear own f0 hs
  go_enter Try.func82, Try.ntmps82
  go_wp2_with (go_at_call 84; refine HC.out.mono ?_; rintro e w' ⟨v, rfl, ho, hb⟩)
  go_ret
  exact ⟨v, rfl, ho, hb⟩
theorem hist_after {w w' w2 : World} {b0 hb : Nat} {lv : Value} {most : Int} {xs : List (List UInt8)} (h : HistAt w b0 hb lv most xs) (hb' : Below w.heap.size w w') (hg : Keeps (fun k => lv.ownBlock = some k ∧ b0 ≤ k) w' w2) :
    w2.cell? ⟨hb, 0, none⟩ = some (.int .i64 most) ∧ w2.cell? ⟨hb, 1, none⟩ = some lv ∧ (∀ j, w2.frozen? ⟨hb, j, none⟩ = false) ∧ hb < w2.heap.size ∧ Keeps (fun k => k = hb ∨ (lv.ownBlock = some k ∧ b0 ≤ k)) w w2 := by
  have h' := h.below hb'
  have hh : w2.heap[hb]? = w'.heap[hb]? := hg.block hb h'.lt (fun e => h.ne e.1)
  have hc : ∀ j, w2.cell? ⟨hb, j, none⟩ = w'.cell? ⟨hb, j, none⟩ := fun j => World.cell?_of_block (w := w') hh
  have hf : ∀ j, w2.frozen? ⟨hb, j, none⟩ = w'.frozen? ⟨hb, j, none⟩ := fun j => World.frozen?_of_block (w := w') hh
  exact ⟨(hc 0).trans h'.c0, (hc 1).trans h'.c1, fun j => (hf j).trans (h'.f0 j), Nat.lt_of_lt_of_le h'.lt hg.size, (Keeps.of_below hb').trans (hg.mono fun k _ hk => .inr hk)⟩
theorem hist_store {w2 : World} {b0 hb g2 off2 c2 : Nat} {most : Int} {xs : List (List UInt8)} (ge : b0 ≤ hb) (t0 : w2.cell? ⟨hb, 0, none⟩ = some (.int .i64 most)) (t1 : ∃ v, w2.cell? ⟨hb, 1, none⟩ = some v) (t2 : ∀ j, w2.frozen? ⟨hb, j, none⟩ = false) (t3 : hb < w2.heap.size)
    (ho : Own w2 b0 1 (.slice (some ⟨g2, off2, none⟩) xs.length c2) xs.length (xs.flatMap strC)) (hne : g2 ≠ hb) : HistAt (w2.setCell ⟨hb, 1, none⟩ (.slice (some ⟨g2, off2, none⟩) xs.length c2)) b0 hb (.slice (some ⟨g2, off2, none⟩) xs.length c2) most xs := by
  have hk : Keeps (fun k => k = hb) w2 (w2.setCell ⟨hb, 1, none⟩ (.slice (some ⟨g2, off2, none⟩) xs.length c2)) := Keeps.setCell (F := fun k => k = hb) w2 (a := ⟨hb, 1, none⟩) rfl _
  obtain ⟨v, hv⟩ := t1
  refine ⟨Nat.lt_of_lt_of_le t3 hk.size, ge, ?_, ?_, fun j => ?_, ho.keeps hk (fun k h _ e => ?_), ?_⟩
  · rw [World.cell?_setCell_other _ _ _ _ (by simp)]; exact t0
  · exact World.cell?_setCell_same' _ _ _ (by rw [hv]; rfl)
  · rw [World.frozen?_setCell]; exact t2 j
  · simp [Value.ownBlock] at h; omega
  · simp [Value.ownBlock]; exact hne
theorem below_trans_drewN {w w' : World} {n : Nat} (h : Below (w.drewN n).heap.size (w.drewN n) w') : Below w.heap.size w w' := (below_drewN (Below.refl _ _) n).trans h
structure AddPost (b0 hb : Nat) (lv : Value) (most : Nat) (xs : List (List UInt8)) (line : List UInt8) (w : World) (e : Ending) (w' : World) : Prop where
  e : e = .returned (.bool (wantB xs line))
  h : ∃ lv', HistAt w' b0 hb lv' most (addL xs line most) ∧ (lv'.ownBlock = lv.ownBlock ∨ ∀ k, lv'.ownBlock = some k → w.heap.size ≤ k)
  k : Keeps (fun k => k = hb ∨ (lv.ownBlock = some k ∧ b0 ≤ k)) w w'
set_option maxHeartbeats 1600000 in
set_option maxRecDepth 100000 in
theorem add_any (w : World) (b0 hb : Nat) (lv : Value) (most : Nat) (xs : List (List UInt8)) (line : List UInt8) (h : HistAt w b0 hb lv most xs) (hx : xs.length ≤ 1048575) (hm : 1 ≤ most) (hm2 : most ≤ 1048576) :
    Calls Try.prog 53 #[.pointer (some ⟨hb, 0, none⟩), .string (B line)] w (AddPost b0 hb lv most xs line w) := by
  obtain ⟨i0, hi0, hz00, hz01, hz02⟩ := info_parts info_str
  have HW := Lib.hid (wanted_any w b0 hb lv most xs line h (by omega))
  cases hwt : wantB xs line with
  | false =>
    have HW' := Lib.hid (show Calls Try.prog 83 #[.pointer (some ⟨hb, 0, none⟩), .string (B line)] w fun e w' => e = .returned (.bool false) ∧ Below w.heap.size w w' from HW.out.mono fun e w' h => ⟨by rw [h.1, hwt], h.2⟩)
    have Hwt := Lib.hid hwt
    have Hh := Lib.hid h
    clear h hwt hi0 hz00 hz01 hz02 HW
    go_enter Try.func53, Try.ntmps53
    go_wp2_with (go_at_call 83; refine HW'.out.mono ?_; rintro e w' ⟨rfl, hb⟩)
    go_ret
    exact ⟨by rw [Hwt.out]; rfl, ⟨lv, by unfold addL; rw [Hwt.out]; exact Hh.out.below hb, .inl rfl⟩, .of_below hb⟩
  | true =>
    have HW' := Lib.hid (show Calls Try.prog 83 #[.pointer (some ⟨hb, 0, none⟩), .string (B line)] w fun e w' => e = .returned (.bool true) ∧ Below w.heap.size w w' from HW.out.mono fun e w' h => ⟨by rw [h.1, hwt], h.2⟩)
    have Hwt := Lib.hid hwt
    have Hh := Lib.hid h
    clear h hwt HW
    go_enter Try.func53, Try.ntmps53
    go_wp2_with (first | (go_at_call 83; refine HW'.out.mono ?_; rintro e w1 ⟨rfl, hb1⟩; have h1 := Hh.out.below hb1; have e0 := h1.c0; have e1 := h1.c1; have elt := h1.lt; have ege := h1.ge; have Hb1 := Lib.hid hb1; have H1 := Lib.hid h1; clear hb1 h1) | ((at_builtin; refine wpList_append_src _ rfl (.tmp 13) (.tmp 15) _ rfl b0 9 i0 _ 1 16 Try.underlying31 hi0 hz00 hz01 hz02 rfl (by decide) _ xs.length (xs.flatMap strC) rfl (H1.out.own.below (by (repeat (first | exact Below.refl _ _ | assumption | with_reducible refine below_alloc ?_ _ | with_reducible refine below_grow ?_ _ | with_reducible refine below_drewN ?_ _ | with_reducible refine below_drew ?_ | with_reducible refine below_setCell ?_ (by first | (dsimp only; omega) | (simp; done) | (simp; omega)) _)))) _ 1 [.string (B line)] rfl rfl (Src.one _ _ _ _) (by simp [Value.oneCell']) (by unfold maxLen; omega) (by omega) (by first | (simp; done) | omega | (simp; omega)) ?_; intro v2 w2 hown2 hg2 hat2 hty2; have HTY2 := Lib.hid hty2; clear hty2); obtain ⟨g2, off2, c2, rfl, q1, q2, q3, q4⟩ := hown2.form; obtain ⟨t0, t1, t2, t3, t4⟩ := hist_after H1.out (by (repeat (first | exact Below.refl _ _ | assumption | with_reducible refine below_alloc ?_ _ | with_reducible refine below_grow ?_ _ | with_reducible refine below_drewN ?_ _ | with_reducible refine below_drew ?_ | with_reducible refine below_setCell ?_ (by first | (dsimp only; omega) | (simp; done) | (simp; omega)) _))) hg2; have t2' := t2 1; have Hown2 := Lib.hid hown2; have Hat2 := Lib.hid hat2; have T4 := Lib.hid t4; have T2 := Lib.hid t2; clear hown2 hat2 hg2 t4 t2 e0 e1 elt))
    have hne2 : g2 ≠ hb := by
      rcases Hat2.out with h | h
      · intro e
        exact H1.out.ne (by rw [← e]; exact h.symm)
      · have := h g2 rfl
        have := H1.out.lt
        simp at *
        omega
    have H3 := hist_store (xs := xs ++ [line]) ege t0 ⟨_, t1⟩ T2.out t3 (by simpa [strC] using Hown2.out) hne2
    have K3 : Keeps (fun k => k = hb ∨ (lv.ownBlock = some k ∧ b0 ≤ k)) w (w2.setCell ⟨hb, 1, none⟩ (.slice (some ⟨g2, off2, none⟩) (xs ++ [line]).length c2)) := ((Keeps.of_below Hb1.out).trans T4.out).trans (Keeps.setCell w2 (.inl rfl) _)
    rw [List.length_append, List.length_singleton] at H3 K3
    have A3 : g2 = g2 ∧ ((Value.slice (some ⟨g2, off2, none⟩) (xs.length + 1) c2).ownBlock = lv.ownBlock ∨ w.heap.size ≤ g2) := ⟨rfl, by
      rcases Hat2.out with h | h
      · exact .inl h
      · have h1 := h g2 rfl
        have h2 := Hb1.out.size
        simp at h1
        exact .inr (by omega)⟩
    generalize w2.setCell ⟨hb, 1, none⟩ (.slice (some ⟨g2, off2, none⟩) (xs.length + 1) c2) = w3 at *
    have hs3 := H3.own.sl strC_len rfl
    have c0 := H3.c0
    have c1 := H3.c1
    have lt3 := H3.lt
    have f31 := H3.f0 1
    have HH3 := Lib.hid H3
    have HK3 := Lib.hid K3
    have HA3 := Lib.hid A3
    have Hs3 := Lib.hid hs3
    clear H3 K3 A3 hs3 t0 t1 t2' t3 Hown2 Hat2 T4 T2 H1 Hb1 HW' Hh q2 hne2 hi0 hz00 hz01 hz02 
    by_cases hlen : most < xs.length + 1
    · have hlen' : (most : Int) < (xs.length : Int) + 1 := by omega
      have hx1 : 1 ≤ xs.length := by omega
      have hd : Sl w3 strC 1 (.slice (some ⟨g2, off2 + 1, none⟩) xs.length (c2 - 1)) ((xs ++ [line]).drop 1) := Hs3.out.drop1
      have hdl : ((xs ++ [line]).drop 1).length = xs.length := by simp
      have HC := Lib.hid fun n => clone_str _ _ (w3.drewN n) (hd.below (below_drewN (Below.refl _ _) n)) (by rw [hdl]; omega)
      have Hdl := Lib.hid hdl
      clear hd hdl
      go_quiet (fail)
      go_wp2_with (go_at_call 84; refine (HC.out _).mono ?_; rintro e w4 ⟨v4, rfl, ho4, hb4⟩; obtain ⟨g4, off4, c4, rfl, r1, r2, r3, r4⟩ := ho4.form' (by rw [Hdl.out]; omega); have lt3' := lt3; have d0 := (hb4.cell (p := ⟨hb, 0, none⟩) lt3).trans c0; have d1 := (hb4.cell (p := ⟨hb, 1, none⟩) lt3).trans c1; have d2 := (hb4.frozen (p := ⟨hb, 1, none⟩) lt3).trans f31; have Ho4 := Lib.hid ho4; have Hb4 := Lib.hid hb4; clear ho4 hb4 c0 c1 f31)
      go_ret
      have H4 := HH3.out.below (below_trans_drewN Hb4.out)
      have hs := hist_store (xs := (xs ++ [line]).drop 1) ege H4.c0 ⟨_, H4.c1⟩ H4.f0 H4.lt (Ho4.out.mono (by have := HH3.out.lt; simp; omega)) (by have := HH3.out.lt; simp at r1; omega)
      rw [Hdl.out] at hs
      refine ⟨by rw [Hwt.out]; rfl, ⟨.slice (some ⟨g4, off4, none⟩) xs.length c4, ?_, .inr fun k hk => ?_⟩, ?_⟩
      · unfold addL
        rw [Hwt.out, if_pos rfl, if_pos hlen]
        exact hs
      · simp [Value.ownBlock] at hk
        have := HK3.out.size
        simp at r1
        omega
      · exact (HK3.out.trans (Keeps.of_below (below_trans_drewN Hb4.out))).trans (Keeps.setCell _ (.inl rfl) _)
    · have hlen' := no (show ¬ (most : Int) < (xs.length : Int) + 1 by omega)
      go_quiet (fail)
      go_wp2
      go_ret
      refine ⟨by rw [Hwt.out]; rfl, ⟨.slice (some ⟨g2, off2, none⟩) (xs.length + 1) c2, ?_, ?_⟩, ?_⟩
      · unfold addL
        rw [Hwt.out, if_pos rfl, if_neg hlen]
        exact HH3.out.below (below_drewN (Below.refl _ _) _)
      · rcases HA3.out.2 with h | h
        · exact .inl h
        · exact .inr fun k hk => by simp [Value.ownBlock] at hk; omega
      · exact HK3.out.trans (Keeps.of_below (below_drewN (Below.refl _ _) _))
end Go.Proofs.Yteojepadhonbiaa
