/-
  The walk of layer 27 (glob): what components lead to. Conditions: components and paths of at most 10000 bytes; the library's variable MaxLen holds some number.
-/
import Derived.Test.YtnecmpgcjgkheaaGreatGlob4
set_option linter.unusedSimpArgs false
set_option linter.unusedVariables false
namespace Go.Proofs.YtnecmpgcjgkheaaGreat.Glob
open Go.ChangeShapes Go.WideShapes Go.Deep Go.RowKit Fil Pat
attribute [local go_sem] Oper.semAt_some
set_option maxRecDepth 100000
set_option maxHeartbeats 12800000 in
theorem walkIn_any {w0 : World} {b0 tb wk gb off c : Nat} {x : List Fl} {nb : List (List UInt8) → Nat} {mp : List (List UInt8) → Option Nat} {parts : List (List UInt8)}
    (hx : x.length ≤ 1048576) (hxl : ∀ f ∈ x, f.path.length ≤ 10000) (hpl : ∀ p ∈ parts, p.length ≤ 10000) (hpn : parts.length ≤ 10000)
    (l A1 : Nat) (hA1 : w0.heap.size ≤ A1) (J Jx : List (List UInt8) → (Nat → Prop) → World → Prop) (xs : List (List UInt8))
    (hJ : ∀ s F A C, LullQ A1 F A C → J s F A → J s F C) (hJx : ∀ s F A C, LullQ A1 F A C → Jx s F A → Jx s F C) (hF : ∀ s F A, J s F A → ∀ k, F k → k < A.heap.size)
    (hY : ∀ m pre x F W1, J pre F W1 → pre ++ [x] <+: xs → YieldAt Fence.wide m Tryz.prog l (Fil.encS x) W1 fun e W' => ∃ F', KpQ A1 w0.heap.size F F' W1 W' ∧ ((e = .returned (.bool true) ∧ J (pre ++ [x]) F' W') ∨ (e = .returned (.bool false) ∧ Jx (pre ++ [x]) F' W'))) :
    ∀ (ps : List (List UInt8)) (i : Nat) (text dir : List UInt8) (pre : List (List UInt8)) (F : Nat → Prop) (W : World), ps ≠ [] → parts.drop i = ps → WkAt w0 b0 tb x nb mp wk gb off c parts W → J pre F W → A1 ≤ W.heap.size → ¬ F wk → ¬ F gb →
      pre ++ walkG x ps text dir <+: xs → text.length + ps.length * 10002 ≤ 134217728 → dir.length + ps.length * 10002 ≤ 134217728 →
      Calls Tryz.prog 25 #[.pointer (some ⟨wk, 0, none⟩), .string (B text), .string (B dir), .int .i64 i, .func (.yield l) #[] #[]] W (WalkP A1 w0.heap.size J Jx xs (pre ++ walkG x ps text dir) F W) := by
  intro ps
  induction ps with
  | nil => intro i text dir pre F W h; exact absurd rfl h
  | cons p rest ih =>
    intro i text dir pre F W _ hd hw hj hA hf1 hf2 hpre htl hdl
    have hil : i < parts.length := by
      rcases Nat.lt_or_ge i parts.length with h | h
      · exact h
      · rw [List.drop_eq_nil_of_le h] at hd; cases hd
    have hpi : parts[i]? = some p := by
      have := List.drop_eq_getElem_cons hil
      rw [hd] at this
      rw [List.getElem?_eq_getElem hil, (List.cons.inj this).1]
    have hrest : parts.drop (i + 1) = rest := by
      have := List.drop_eq_getElem_cons hil
      rw [hd] at this
      exact (List.cons.inj this).2.symm
    have hlr : rest.length + (i + 1) = parts.length := by
      have := congrArg List.length hrest
      rw [List.length_drop] at this
      omega
    have hp := hpl p (List.mem_of_getElem? hpi)
    have HPL := Lib.hid hpl
    have HD := Lib.hid hd
    have HTL := Lib.hid htl
    have HDL := Lib.hid hdl
    simp only [List.length_cons, Nat.add_mul, Nat.one_mul] at htl hdl
    have ct := hw.ct
    have cs := hw.cs
    have cp := hw.ps i p hpi
    have hb1 := World.block_lt_of_cell? W _ ct
    have hb2 := World.block_lt_of_cell? W _ cp
    have HW := Lib.hid hw
    have HJ := Lib.hid hJ
    have HJx := Lib.hid hJx
    have HF := Lib.hid hF
    have HY := Lib.hid hY
    have H0 := Lib.hid hj
    have HPRE := Lib.hid hpre
    have IH := Lib.hid ih
    have HXL := Lib.hid hxl
    have HR := Lib.hid hrest
    have i0 : (0 : Int) ≤ (i : Int) := by omega
    have i1 : (i : Int) < (parts.length : Int) := by omega
    haveI : Old W wk := ⟨hb1⟩
    haveI : Old W gb := ⟨hb2⟩
    clear hw hJ hJx hF hY hj hpre ih hxl hd hpi hrest hpl
    cases rest with
    | nil =>
      have e1 : ((i : Int) == (parts.length : Int) - 1) = true := by simp at hlr ⊢; omega
      by_cases hpe : p = []
      · subst hpe
        refine (callsIn_wide (n := 9)).1 ?_; refine callsIn_of_wp_marks Tryz.func25 rfl trivial ?_ rfl; simp only [Tryz.ntmps25, List.size_toArray, List.length_cons, List.length_nil, Nat.reduceAdd, Nat.reduceSub, Array.replicate_succ, Array.replicate_zero, List.push_toArray, List.append_toArray, List.nil_append, List.cons_append]
        refine wpIn_wide.2 ?_
        go_wp2
        go_region
        show Exit.then _ _ _ _ (frameW wk text i l true W)
        have FR := Lib.hid (frameW_fr wk text i l true W)
        have HB6 := Lib.hid (frameW_below wk text i l true W)
        generalize frameW wk text i l true W = W6 at *
        have cs6 := (HB6.out.cell (p := ⟨wk, 1, none⟩) hb1).trans cs
        have cp6 := (HB6.out.cell (p := ⟨gb, off + i, none⟩) hb2).trans cp
        obtain ⟨r0, r1, r2, r3, ⟨v4, r4⟩, f4, r5⟩ := FR.out
        haveI : Old W6 wk := ⟨Nat.lt_of_lt_of_le hb1 HB6.out.size⟩
        haveI : Old W6 gb := ⟨Nat.lt_of_lt_of_le hb2 HB6.out.size⟩
        haveI : Old W6 W.heap.size := ⟨World.block_lt_of_cell? _ _ r0⟩
        haveI : Old W6 (W.heap.size + 1) := ⟨World.block_lt_of_cell? _ _ r1⟩
        haveI : Old W6 (W.heap.size + 1 + 1) := ⟨World.block_lt_of_cell? _ _ r2⟩
        haveI : Old W6 (W.heap.size + 1 + 1 + 1) := ⟨World.block_lt_of_cell? _ _ r3⟩
        haveI : Old W6 (W.heap.size + 1 + 1 + 1 + 1) := ⟨World.block_lt_of_cell? _ _ r4⟩
        haveI : Old W6 (W.heap.size + 1 + 1 + 1 + 1 + 1) := ⟨World.block_lt_of_cell? _ _ r5⟩
        clear cs cp ct
        go_wp2
        go_region
        go_upto_region 4 with fail
        refine (wpIn_wide (n := 9)).1 ?_
        have HB7 := Lib.hid (below_then HB6.out (below_drew (Below.refl W6.heap.size W6)))
        have HB7F := Lib.hid (FR.out.below (below_drew (Below.refl W6.heap.size W6)))
        have HL4 := Lib.hid (World.block_lt_of_cell? W6 _ r4)
        have HBF := Lib.hid (fun k (hk : W.heap.size ≤ k) (q : F k) => (by have := HF.out _ _ _ H0.out k q; omega : False))
        have hW0 := Nat.le_trans hA1 hA
        have HWG := Lib.hid (show walkG x [[]] text dir = [text] by rw [walkG, if_pos rfl, if_pos rfl])
        obtain ⟨fn, tmps, assign, body, hy, hR⟩ := HY.out 0 pre text F W6.drew (HJ.out _ _ _ _ (LullQ.of_below HB7.out) H0.out) (by have := HPRE.out; simpa [walkG] using this)
        rw [Fil.encS_eq] at hy
        gi_wp2
        refine (roundIn_any hR).mono ?_
        rintro e W3 ⟨F', hk, ⟨rfl, hJ3⟩ | ⟨rfl, hJ3⟩⟩
        · have HK6 := Lib.hid ((KpQ.of_below (A := A1) (F := F) HB7.out hW0).trans hk)
          have hf6 := HB7F.out.kc hk.toKcQ (fun k h1 h2 => HBF.out k h1)
          have HNF := Lib.hid (show ¬ F' (W.heap.size + 1 + 1 + 1 + 1) from fun q => by
            rcases hk.new _ q with q | q
            · exact HBF.out _ (by omega) q
            · have q2 : W6.heap.size ≤ W.heap.size + 1 + 1 + 1 + 1 := q
              have := HL4.out
              omega)
          obtain ⟨v5, q4⟩ := hf6.c4
          have g4 := hf6.f4
          haveI : Old W3 (W.heap.size + 1 + 1 + 1 + 1) := ⟨World.block_lt_of_cell? _ _ q4⟩
          have H3 := Lib.hid hJ3
          clear hk hJ3 hf6
          gi_wp2
          go_wp2
          have p4 : (W3.setCell ⟨W.heap.size + 1 + 1 + 1 + 1, 0, none⟩ (.bool true)).cell? ⟨W.heap.size + 1 + 1 + 1 + 1, 0, none⟩ = some (.bool true) := World.cell?_setCell_same' _ _ _ (by rw [q4]; rfl)
          exact ⟨.bool true, by simp [results, Tryz.results25, go_sem, p4], F', HK6.out.setNew (by omega) hW0 _, .inl ⟨rfl, by rw [HWG.out]; exact HJ.out _ _ _ _ (LullQ.setCell W3 (by omega) HNF.out _) H3.out⟩⟩
        · have HK6 := Lib.hid ((KpQ.of_below (A := A1) (F := F) HB7.out hW0).trans hk)
          have hf6 := HB7F.out.kc hk.toKcQ (fun k h1 h2 => HBF.out k h1)
          have HNF := Lib.hid (show ¬ F' (W.heap.size + 1 + 1 + 1 + 1) from fun q => by
            rcases hk.new _ q with q | q
            · exact HBF.out _ (by omega) q
            · have q2 : W6.heap.size ≤ W.heap.size + 1 + 1 + 1 + 1 := q
              have := HL4.out
              omega)
          obtain ⟨v5, q4⟩ := hf6.c4
          have g4 := hf6.f4
          haveI : Old W3 (W.heap.size + 1 + 1 + 1 + 1) := ⟨World.block_lt_of_cell? _ _ q4⟩
          have H3 := Lib.hid hJ3
          clear hk hJ3 hf6
          gi_wp2
          go_wp2
          have p4 : (W3.setCell ⟨W.heap.size + 1 + 1 + 1 + 1, 0, none⟩ (.bool false)).cell? ⟨W.heap.size + 1 + 1 + 1 + 1, 0, none⟩ = some (.bool false) := World.cell?_setCell_same' _ _ _ (by rw [q4]; rfl)
          exact ⟨.bool false, by simp [results, Tryz.results25, go_sem, p4], F', HK6.out.setNew (by omega) hW0 _, .inr ⟨rfl, _, by have := HPRE.out; rwa [HWG.out] at this, HJx.out _ _ _ _ (LullQ.setCell W3 (by omega) HNF.out _) H3.out⟩⟩
      · exact walk_loop hx HXL.out HPL.out hpn l A1 hA1 J Jx xs HJ.out HJx.out HF.out HY.out p [] i text dir pre F W HD.out hpe true (by simp) e1 HW.out H0.out hA hf1 hf2 HPRE.out HTL.out HDL.out (fun _ _ _ _ _ h => absurd rfl h)
    | cons p2 ps =>
      have e1 : ((i : Int) == (parts.length : Int) - 1) = false := by simp at hlr ⊢; omega
      by_cases hpe : p = []
      · subst hpe
        refine (callsIn_wide (n := 9)).1 ?_; refine callsIn_of_wp_marks Tryz.func25 rfl trivial ?_ rfl; simp only [Tryz.ntmps25, List.size_toArray, List.length_cons, List.length_nil, Nat.reduceAdd, Nat.reduceSub, Array.replicate_succ, Array.replicate_zero, List.push_toArray, List.append_toArray, List.nil_append, List.cons_append]
        refine wpIn_wide.2 ?_
        go_wp2
        go_region
        show Exit.then _ _ _ _ (frameW wk text i l false W)
        have FR := Lib.hid (frameW_fr wk text i l false W)
        have HB6 := Lib.hid (frameW_below wk text i l false W)
        generalize frameW wk text i l false W = W6 at *
        have cs6 := (HB6.out.cell (p := ⟨wk, 1, none⟩) hb1).trans cs
        have cp6 := (HB6.out.cell (p := ⟨gb, off + i, none⟩) hb2).trans cp
        obtain ⟨r0, r1, r2, r3, ⟨v4, r4⟩, f4, r5⟩ := FR.out
        haveI : Old W6 wk := ⟨Nat.lt_of_lt_of_le hb1 HB6.out.size⟩
        haveI : Old W6 gb := ⟨Nat.lt_of_lt_of_le hb2 HB6.out.size⟩
        haveI : Old W6 W.heap.size := ⟨World.block_lt_of_cell? _ _ r0⟩
        haveI : Old W6 (W.heap.size + 1) := ⟨World.block_lt_of_cell? _ _ r1⟩
        haveI : Old W6 (W.heap.size + 1 + 1) := ⟨World.block_lt_of_cell? _ _ r2⟩
        haveI : Old W6 (W.heap.size + 1 + 1 + 1) := ⟨World.block_lt_of_cell? _ _ r3⟩
        haveI : Old W6 (W.heap.size + 1 + 1 + 1 + 1) := ⟨World.block_lt_of_cell? _ _ r4⟩
        haveI : Old W6 (W.heap.size + 1 + 1 + 1 + 1 + 1) := ⟨World.block_lt_of_cell? _ _ r5⟩
        clear cs cp ct
        have HIH := Lib.hid fun W' (hb : Below W.heap.size W W') => IH.out (i + 1) (text ++ [47]) dir pre F W' (by simp) HR.out (HW.out.below hb) (HJ.out _ _ _ _ (LullQ.of_below hb) H0.out) (Nat.le_trans hA hb.size) hf1 hf2 (by have := HPRE.out; simpa [walkG] using this) (by simp at htl ⊢; omega) (by simp at hdl ⊢; omega)
        have HWG := Lib.hid (show walkG x ([] :: p2 :: ps) text dir = walkG x (p2 :: ps) (text ++ [47]) dir by rw [walkG, if_pos rfl, if_neg (by simp)])
        have HB7 := Lib.hid (below_then HB6.out (below_drew (Below.refl W6.heap.size W6)))
        have HB7F := Lib.hid (FR.out.below (below_drew (Below.refl W6.heap.size W6)))
        have HL4 := Lib.hid (World.block_lt_of_cell? W6 _ r4)
        have HBF := Lib.hid (fun k (hk : W.heap.size ≤ k) (q : F k) => (by have := HF.out _ _ _ H0.out k q; omega : False))
        have hW0 := Nat.le_trans hA1 hA
        have htx : ((text.length : Int) + 1) ≤ 9223372036854775807 := by omega
        go_wp2
        go_region
        rw [show (((i + 1 : Nat)) : Int) = (i : Int) + 1 from rfl] at HIH
        go_wp2_with fail
        refine (HIH.out _ HB7.out).mono ?_
        rintro e W3 ⟨F', hk, ⟨rfl, hJ3⟩ | ⟨rfl, q, hq, hJ3⟩⟩
        · have HK6 := Lib.hid ((KpQ.of_below (A := A1) (F := F) HB7.out hW0).trans hk)
          have hf6 := HB7F.out.kc hk.toKcQ (fun k h1 h2 => HBF.out k h1)
          have HNF := Lib.hid (show ¬ F' (W.heap.size + 1 + 1 + 1 + 1) from fun q => by
            rcases hk.new _ q with q | q
            · exact HBF.out _ (by omega) q
            · have q2 : W6.heap.size ≤ W.heap.size + 1 + 1 + 1 + 1 := q
              have := HL4.out
              omega)
          obtain ⟨v5, q4⟩ := hf6.c4
          have g4 := hf6.f4
          haveI : Old W3 (W.heap.size + 1 + 1 + 1 + 1) := ⟨World.block_lt_of_cell? _ _ q4⟩
          have H3 := Lib.hid hJ3
          clear hk hJ3 hf6
          go_wp2
          have p4 : (W3.setCell ⟨W.heap.size + 1 + 1 + 1 + 1, 0, none⟩ (.bool true)).cell? ⟨W.heap.size + 1 + 1 + 1 + 1, 0, none⟩ = some (.bool true) := World.cell?_setCell_same' _ _ _ (by rw [q4]; rfl)
          exact ⟨.bool true, by simp [results, Tryz.results25, go_sem, p4], F', HK6.out.setNew (by omega) hW0 _, .inl ⟨rfl, by rw [HWG.out]; exact HJ.out _ _ _ _ (LullQ.setCell W3 (by omega) HNF.out _) H3.out⟩⟩
        · have HK6 := Lib.hid ((KpQ.of_below (A := A1) (F := F) HB7.out hW0).trans hk)
          have hf6 := HB7F.out.kc hk.toKcQ (fun k h1 h2 => HBF.out k h1)
          have HNF := Lib.hid (show ¬ F' (W.heap.size + 1 + 1 + 1 + 1) from fun q => by
            rcases hk.new _ q with q | q
            · exact HBF.out _ (by omega) q
            · have q2 : W6.heap.size ≤ W.heap.size + 1 + 1 + 1 + 1 := q
              have := HL4.out
              omega)
          obtain ⟨v5, q4⟩ := hf6.c4
          have g4 := hf6.f4
          haveI : Old W3 (W.heap.size + 1 + 1 + 1 + 1) := ⟨World.block_lt_of_cell? _ _ q4⟩
          have H3 := Lib.hid hJ3
          clear hk hJ3 hf6
          go_wp2
          have p4 : (W3.setCell ⟨W.heap.size + 1 + 1 + 1 + 1, 0, none⟩ (.bool false)).cell? ⟨W.heap.size + 1 + 1 + 1 + 1, 0, none⟩ = some (.bool false) := World.cell?_setCell_same' _ _ _ (by rw [q4]; rfl)
          exact ⟨.bool false, by simp [results, Tryz.results25, go_sem, p4], F', HK6.out.setNew (by omega) hW0 _, .inr ⟨rfl, q, hq, HJx.out _ _ _ _ (LullQ.setCell W3 (by omega) HNF.out _) H3.out⟩⟩
      · refine walk_loop hx HXL.out HPL.out hpn l A1 hA1 J Jx xs HJ.out HJx.out HF.out HY.out p (p2 :: ps) i text dir pre F W HD.out hpe false (by simp) e1 HW.out H0.out hA hf1 hf2 HPRE.out HTL.out HDL.out ?_
        intro text dir pre F W hne hw hj hA hf1 hf2 hpre htl hdl
        exact IH.out (i + 1) text dir pre F W hne HR.out hw hj hA hf1 hf2 hpre htl hdl
end Go.Proofs.YtnecmpgcjgkheaaGreat.Glob
