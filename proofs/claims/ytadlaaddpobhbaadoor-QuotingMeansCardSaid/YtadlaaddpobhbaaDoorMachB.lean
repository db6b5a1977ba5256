/-
  The walks of layers 6 and 17: the stack behind a text, its letters, the state behind a word. Conditions: texts of at most 2^29 bytes.
-/
import Derived.Test.YtadlaaddpobhbaaDoorMachA
import Derived.Test.YtadlaaddpobhbaaDoorModA
import Derived.Test.YtadlaaddpobhbaaDoorAppStr
/-
  The walks of layer 6 (modes), on: the stack behind a text. Conditions: texts of at most 2^29 bytes.
-/
namespace Go.Proofs.YtadlaaddpobhbaaDoor.Mc
open Go.ChangeShapes Go.WideShapes Go.Deep Go.RowKit Cls Md
set_option linter.unusedSimpArgs false
set_option linter.unusedVariables false
set_option maxRecDepth 100000
/-- A machine behind a text's beginning; nothing older was written. -/
structure RunM (w : World) (mb : Nat) (W : World) (x : St) (n : Nat) : Prop where
  ex : ∃ v, Mach W w.heap.size mb v x n
  be : Below w.heap.size w W
  ge : w.heap.size ≤ mb
theorem RunM.step {w W W' : World} {mb n' : Nat} {v v' : Value} {y : St} (hb : Below w.heap.size w W) (hg : w.heap.size ≤ mb) (hs : MStep w.heap.size mb W v W' v') (hm : Mach W' w.heap.size mb v' y n') : RunM w mb W' y n' :=
  ⟨⟨v', hm⟩, below_keeps hb hs.k (fun k q => by rcases q with q | q <;> omega), hg⟩
set_option maxHeartbeats 4000000 in
theorem mrun_any (s : List UInt8) (w : World) (hs : s.length ≤ 536870912) : Calls Tryd.prog 30 #[.string (B s)] w fun e w' => ∃ v', e = .returned (.tuple #[v', .bool (run s).f]) ∧ Own w' w.heap.size 2 v' (run s).l.length ((run s).l.reverse.flatMap frC) ∧ Below w.heap.size w w' := by
  have HN := Lib.hid (mnew_any w)
  have HRL := Lib.hid (run_len s)
  go_enter Tryd.func30, Tryd.ntmps30
  go_wp2_with (go_at_call 53; (refine HN.out.mono ?_); rintro e w1 ⟨mb, v1, rfl, hg1, hm1, hb1⟩; have HI := Lib.hid (show RunM w mb w1 (run (s.take 0)) 0 from ⟨⟨v1, hm1⟩, hb1, hg1⟩); clear hg1 hm1 hb1)
  go_loopw [5, 9] (fun _ i wr => ∃ k : Nat, k ≤ s.length ∧ i = .int .i64 k ∧ Hid (RunM w mb wr (run (s.take k)) k)) (fun _ i _ => s.length - (intOf i).toNat)
  case atStart => exact ⟨0, by omega, rfl, HI⟩
  case round =>
    clear HI HN
    obtain ⟨k, hk, rfl, HI⟩ := hrel
    by_cases hlt : k < s.length
    · have h0 : (0 : Int) ≤ (k : Int) := by omega
      have h1 : (k : Int) < (s.length : Int) := by omega
      obtain ⟨v2, hm2⟩ := HI.out.ex
      have hrl := run_len (s.take k)
      rw [List.length_take] at hrl
      have HST := Lib.hid (mfeed_any hm2 (wf_run (s.take k)) (by omega) (by omega) HI.out.be.size s[k])
      rw [← run_take hlt] at HST
      clear hm2 hrl
      go_wp2_with (go_at_call 54; (refine HST.out.mono ?_); rintro e w3 ⟨rfl, v3, hs3, hm3⟩; have HI3 := Lib.hid (RunM.step HI.out.be HI.out.ge hs3 hm3); clear hs3 hm3)
      go_roundw
      case rel => exact ⟨k + 1, by omega, by go_num, HI3⟩
      case measure => simp [intOf]; omega
    · have hk' : k = s.length := by omega
      subst hk'
      rw [List.take_length] at HI
      obtain ⟨v2, hm2⟩ := HI.out.ex
      have hl2 : (run s).l.length ≤ 1073741824 := by have := HRL.out; omega
      have HFS := Lib.hid (mframes_any hm2 hl2)
      have HFR := Lib.hid fun W (h : Below wr.heap.size wr W) => mfresh_any (hm2.below h) hl2
      clear hm2 hl2
      go_wp2_with (first
        | (go_at_call 55; (refine HFS.out.mono ?_); rintro e w3 ⟨v3, rfl, ho3, hb3⟩; have HO3 := Lib.hid ho3; have HB3 := Lib.hid hb3; clear ho3 hb3)
        | (go_at_call 56; (refine (HFR.out _ HB3.out).mono ?_); rintro e w4 ⟨rfl, rfl⟩))
      refine bodyPost_ret (v := .tuple #[v3, .bool (run s).f]) (by simp [results, Tryd.results30, go_sem]) rfl ?_
      exact ⟨_, rfl, HO3.out.mono HI.out.be.size, below_then HI.out.be HB3.out⟩
end Go.Proofs.YtadlaaddpobhbaaDoor.Mc
/-
  The walks of layers 6 and 17: a stack's modes as letters; the state behind a word. Conditions: texts of at most 2^29 bytes.
-/
namespace Go.Proofs.YtadlaaddpobhbaaDoor.Mc
open Go.ChangeShapes Go.WideShapes Go.Deep Go.RowKit Cls Md
set_option linter.unusedSimpArgs false
set_option linter.unusedVariables false
set_option maxRecDepth 100000
/-- A mode's letter. -/
theorem letter_at (c : UInt8) (h : c ∈ modeL) : ∃ k : Nat, mo c = (k : Int) ∧ k < 15 ∧ modeL[k]? = some c := by
  have H : ∀ c ∈ modeL, mo c = ((modeL.idxOf c : Nat) : Int) ∧ modeL.idxOf c < 15 ∧ modeL[modeL.idxOf c]? = some c := by decide +kernel
  exact ⟨_, H c h⟩
theorem wf_letters {l : List (UInt8 × Nat)} (h : WFl l) : ∀ e ∈ l, e.1 ∈ modeL := by
  have hl : ∀ c ∈ lettersL, c ∈ modeL := by decide
  have hi : ∀ c ∈ innerL, c ∈ modeL := by decide
  induction l with
  | nil => exact h.elim
  | cons a r ih =>
    match r, h with
    | [], h =>
      intro e he
      rw [List.mem_singleton] at he
      subst he
      have h' : e.1 = 84 := h
      rw [h']
      decide
    | b :: r, h =>
      intro e he
      rcases List.mem_cons.1 he with rfl | he
      · exact hl _ h.1
      · exact ih h.2.2 e he
theorem lets_take {l : List (UInt8 × Nat)} {k : Nat} (h : k < l.reverse.length) : (lets l).take (k + 1) = (lets l).take k ++ [l.reverse[k].1] := by
  have e : lets l = l.reverse.map (·.1) := by unfold lets; rw [List.map_reverse]
  rw [e, List.take_succ_eq_append_getElem (by simpa using h)]
  simp
theorem src_new (w : World) (cs : List Value) (t : TypeId) (m k : Nat) (hk : k = w.heap.size) : Src (w.alloc (.cells cs.toArray t)) (.slice (some ⟨k, 0, none⟩) m m) m cs := by
  subst hk
  exact Src.one w cs t m
set_option maxHeartbeats 4000000 in
theorem mshow_any {w : World} {b0 : Nat} {v : Value} {x : St} (ho : Own w b0 2 v x.l.length (x.l.reverse.flatMap frC)) (hw : WF x) (hl : x.l.length ≤ 1073741824) : Calls Tryd.prog 31 #[v] w fun e w' => e = .returned (.string (B (lets x.l))) ∧ Below w.heap.size w w' := by
  obtain ⟨i0, hi0, hz00, hz01, hz02⟩ := info_parts info_u8
  have HLT := Lib.hid (wf_letters hw)
  have HTK := Lib.hid fun k (h : k < x.l.reverse.length) => lets_take (l := x.l) h
  have HLL := Lib.hid (lets_len x.l)
  have hs := ho.sl frC_len (by simp)
  have hfl : x.l.reverse.length = x.l.length := by simp
  obtain ⟨A, c, rfl, hc1, hc2, hn, hA⟩ := hs
  have HA := Lib.hid hA
  have HLT : Hid (∀ e ∈ x.l.reverse, e.1 ∈ modeL) := Lib.hid fun e he => HLT.out e (List.mem_reverse.1 he)
  clear hA hn ho hw
  rw [hfl]
  rw [hfl] at hc1
  generalize x.l.reverse = fl at *
  generalize lets x.l = ml at *
  generalize x.l.length = n at *
  go_enter Tryd.func31, Tryd.ntmps31
  go_wp2_with (at_make; refine wpList_make_own _ rfl _ _ 43 rfl w.heap.size 5 i0 (.int .u8 0) 1 Tryd.underlying43 hi0 hz00 hz01 .i64 .i64 _ n rfl rfl rfl (by rw [hz02]; omega) (by unfold maxLen; omega) (Nat.le_refl _) ?_; intro w0 hown0 hgrow0; have HO0 := Lib.hid (Own.of_row hown0 (Nat.le_refl _)); have HB0 : Hid (Below w.heap.size w w0) := ⟨hgrow0.os, hgrow0.tape, hgrow0.output, hgrow0.size, fun k hk => hgrow0.block k hk (fun e => by cases e)⟩; clear hown0 hgrow0)
  go_loopw [3, 11] (fun o1 i wr => ∃ (k : Nat) (o : Value), k ≤ n ∧ o = o1 ∧ i = .int .i64 k ∧ Hid (Own wr w.heap.size 1 o k ((ml.take k).flatMap byC)) ∧ Hid (Below w.heap.size w wr)) (fun _ i _ => n - (intOf i).toNat)
  case atStart => exact ⟨0, _, by omega, rfl, rfl, HO0.out, HB0.out⟩
  case round =>
    obtain ⟨k, o, hk, rfl, rfl, HO, HB⟩ := hrel
    clear HO0 HB0
    have hwz := HB.out.size
    by_cases hlt : k < n
    · have hlt2 : k < fl.length := by omega
      obtain ⟨b, off, rfl, hb, hc⟩ := HA.out (by omega)
      have e0 : wr.cell? ⟨b, off + k * 2, none⟩ = some (.int .i64 (mo fl[k].1)) := (HB.out.cell (p := ⟨b, _, none⟩) hb).trans (hc k _ (List.getElem?_eq_getElem hlt2) 0 _ rfl)
      have e1 : wr.cell? ⟨b, off + k * 2 + 1, none⟩ = some (.int .i64 fl[k].2) := (HB.out.cell (p := ⟨b, _, none⟩) hb).trans (hc k _ (List.getElem?_eq_getElem hlt2) 1 _ rfl)
      clear hc
      haveI : Old wr b := ⟨Nat.lt_of_lt_of_le hb HB.out.size⟩
      obtain ⟨j, hj1, hj2, hj3⟩ := letter_at fl[k].1 (HLT.out _ (List.getElem_mem hlt2))
      have HT := Lib.hid (show (ml.take (k + 1)).flatMap byC = (ml.take k).flatMap byC ++ [.int .u8 fl[k].1.toNat] by rw [HTK.out k hlt2, List.flatMap_append]; rfl)
      rw [hj1] at e0
      clear hj1
      generalize fl[k] = q at *
      clear hlt2
      have hjx : ([84, 67, 80, 79, 83, 68, 66, 86, 73, 65, 82, 69, 76, 88, 35] : List UInt8)[j] = q.1 := Option.some.inj ((List.getElem?_eq_getElem (by simpa using hj2)).symm.trans hj3)
      have hjj : (0 : Int) ≤ (j : Int) := by omega
      have hjk : (j : Int) < 15 := by omega
      clear hj3
      go_wp2_with ((at_builtin; refine wpList_append_src _ rfl (.tmp 26) (.tmp 30) _ rfl w.heap.size 5 i0 _ 1 1 Tryd.underlying43 hi0 hz00 hz01 hz02 rfl (by decide) _ k ((ml.take k).flatMap byC) rfl ((HO.out.below (below_alloc (Below.refl _ _) _)).below (below_alloc (Below.refl _ _) _)) _ 1 [.int .u8 q.1.toNat] rfl rfl (src_new _ _ _ _ _ (by first | rfl | (simp; done) | omega)) (by simp [Value.oneCell']) (by unfold maxLen; omega) (by omega) (by first | (simp; done) | omega | (simp; omega)) ?_; intro v1 w1 hown1 hg1 hat1 hty1; have HTY1 := Lib.hid hty1; clear hty1); have HB1 := Lib.hid (below_keeps (below_alloc (below_alloc HB.out _) _) hg1 (fun k q => q.2)); have HO1 := Lib.hid hown1; clear hown1 hg1 hat1)
      go_roundw
      case rel => exact ⟨k + 1, v1, by omega, rfl, by go_num, by show Own _ _ _ _ _ _; rw [HT.out]; exact HO1.out, HB1.out⟩
      case measure => simp [intOf]; omega
    · have hk' : k = n := by omega
      have ho := HO.out
      rw [hk', ← HLL.out, List.take_length] at ho
      have hcv := conv_by ho rfl
      clear ho hk'
      go_wp2
      go_ret
      exact ⟨rfl, HB.out⟩
end Go.Proofs.YtadlaaddpobhbaaDoor.Mc
/-
  The walk of layer 17: the state behind a word. Conditions: texts of at most 2^29 bytes.
-/
namespace Go.Proofs.YtadlaaddpobhbaaDoor.Mc
open Go.ChangeShapes Go.WideShapes Go.Deep Go.RowKit Cls Md
set_option linter.unusedSimpArgs false
set_option linter.unusedVariables false
set_option maxRecDepth 100000
def stN (m : List UInt8) : Int := if m == [84] then 0 else if m == [84, 83] then 4 else if m == [84, 68] then 5 else 0
def stK (m : List UInt8) : Bool := m == [84] || m == [84, 83] || m == [84, 68]
theorem state_any (s : List UInt8) (w : World) (hs : s.length ≤ 536870912) : Calls Tryd.prog 15 #[.string (B s)] w fun e w' => e = .returned (.tuple #[.int .i64 (stN (lets (run s).l)), .bool (stK (lets (run s).l))]) ∧ Below w.heap.size w w' := by
  have HR := Lib.hid (mrun_any s w hs)
  have HS := Lib.hid fun W v (h : Own W w.heap.size 2 v (run s).l.length ((run s).l.reverse.flatMap frC)) => mshow_any h (wf_run s) (by have := run_len s; omega)
  generalize lets (run s).l = m at *
  go_enter Tryd.func15, Tryd.ntmps15
  go_wp2_with (first
    | (go_at_call 30; (refine HR.out.mono ?_); rintro e w1 ⟨v1, rfl, ho1, hb1⟩; have HO1 := Lib.hid ho1; have HB1 := Lib.hid hb1; clear ho1 hb1)
    | (go_at_call 31; (refine (HS.out _ _ HO1.out).mono ?_); rintro e w2 ⟨rfl, hb2⟩; have HB2 := Lib.hid (below_then HB1.out hb2); clear hb2))
  all_goals
    refine bodyPost_ret (v := .tuple #[.int .i64 (stN m), .bool (stK m)]) (by simp [results, Tryd.results15, go_sem, stN, stK, *]) rfl ?_
    exact ⟨rfl, HB2.out⟩
end Go.Proofs.YtadlaaddpobhbaaDoor.Mc
