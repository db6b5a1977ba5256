/-
  Regions that draw their order, inside a fence that asks nothing (in a round of a loop over an iterator; in an iterator, at its calls of yield): the plain laws turned. No program in sight.
-/
import Derived.Test.YtadaeecokkokjaaGreatDoorMachA
import Derived.Test.YtadaeecokkokjaaGreatDoorModA
import Derived.Test.YtadaeecokkokjaaGreatDoorAppStr
import Derived.Test.YtadaeecokkokjaaGreatDoorTail
import Derived.Test.YtadaeecokkokjaaGreatDoorIter
import Derived.OrdersIn
set_option linter.unusedSimpArgs false
set_option linter.unusedVariables false
/-
  The walks of layers 6 and 17: the stack behind a text, its letters, the state behind a word. Conditions: texts of at most 2^29 bytes.
-/
/-
  The walks of layer 6 (modes), on: the stack behind a text. Conditions: texts of at most 2^29 bytes.
-/
namespace Go.Proofs.YtadaeecokkokjaaGreatDoor.Mc
open Go.ChangeShapes Go.WideShapes Go.Deep Go.RowKit Cls Md
set_option linter.unusedSimpArgs false
set_option linter.unusedVariables false
set_option maxRecDepth 100000
/-- A machine behind a text's beginning; nothing older was written. -/
structure RunM (w : World) (mb : Nat) (W : World) (x : St) (n : Nat) : Prop where
  ex : ∃ v, Mach W w.heap.size mb v x n
  be : Below w.heap.size w W
  ge : w.heap.size ≤ mb
theorem RunM.step {w W W' : World} {mb n' : Nat} {v v' : Value} {y : St} (hb : Below w.heap.size w W) (hg : w.heap.size ≤ mb) (hs : MStep w.heap.size mb W v W' v') (hm : Mach W' w.heap.size mb v' y n') : RunM w mb W' y n' :=
  ⟨⟨v', hm⟩, below_keeps hb hs.k (fun k q => by rcases q with q | q <;> omega), hg⟩
set_option maxHeartbeats 4000000 in
theorem mrun_any (s : List UInt8) (w : World) (hs : s.length ≤ 536870912) : Calls Tryz.prog 74 #[.string (B s)] w fun e w' => ∃ v', e = .returned (.tuple #[v', .bool (run s).f]) ∧ Own w' w.heap.size 2 v' (run s).l.length ((run s).l.reverse.flatMap frC) ∧ Below w.heap.size w w' := by
  have HN := Lib.hid (mnew_any w)
  have HRL := Lib.hid (run_len s)
  go_enter Tryz.func74, Tryz.ntmps74
  go_wp2_with (go_at_call 71; (refine HN.out.mono ?_); rintro e w1 ⟨mb, v1, rfl, hg1, hm1, hb1⟩; have HI := Lib.hid (show RunM w mb w1 (run (s.take 0)) 0 from ⟨⟨v1, hm1⟩, hb1, hg1⟩); clear hg1 hm1 hb1)
  go_loopw [5, 9] (fun _ i wr => ∃ k : Nat, k ≤ s.length ∧ i = .int .i64 k ∧ Hid (RunM w mb wr (run (s.take k)) k)) (fun _ i _ => s.length - (intOf i).toNat)
  case atStart => exact ⟨0, by omega, rfl, HI⟩
  case round =>
    clear HI HN
    obtain ⟨k, hk, rfl, HI⟩ := hrel
    by_cases hlt : k < s.length
    · have h0 : (0 : Int) ≤ (k : Int) := by omega
      have h1 : (k : Int) < (s.length : Int) := by omega
      obtain ⟨v2, hm2⟩ := HI.out.ex
      have hrl := run_len (s.take k)
      rw [List.length_take] at hrl
      have HST := Lib.hid (mfeed_any hm2 (wf_run (s.take k)) (by omega) (by omega) HI.out.be.size s[k])
      rw [← run_take hlt] at HST
      clear hm2 hrl
      go_wp2_with (go_at_call 73; (refine HST.out.mono ?_); rintro e w3 ⟨rfl, v3, hs3, hm3⟩; have HI3 := Lib.hid (RunM.step HI.out.be HI.out.ge hs3 hm3); clear hs3 hm3)
      go_roundw
      case rel => exact ⟨k + 1, by omega, by go_num, HI3⟩
      case measure => simp [intOf]; omega
    · have hk' : k = s.length := by omega
      subst hk'
      rw [List.take_length] at HI
      obtain ⟨v2, hm2⟩ := HI.out.ex
      have hl2 : (run s).l.length ≤ 1073741824 := by have := HRL.out; omega
      have HFS := Lib.hid (mframes_any hm2 hl2)
      have HFR := Lib.hid fun W (h : Below wr.heap.size wr W) => mfresh_any (hm2.below h) hl2
      clear hm2 hl2
      go_wp2_with (first
        | (go_at_call 97; (refine HFS.out.mono ?_); rintro e w3 ⟨v3, rfl, ho3, hb3⟩; have HO3 := Lib.hid ho3; have HB3 := Lib.hid hb3; clear ho3 hb3)
        | (go_at_call 98; (refine (HFR.out _ HB3.out).mono ?_); rintro e w4 ⟨rfl, rfl⟩))
      refine bodyPost_ret (v := .tuple #[v3, .bool (run s).f]) (by simp [results, Tryz.results74, go_sem]) rfl ?_
      exact ⟨_, rfl, HO3.out.mono HI.out.be.size, below_then HI.out.be HB3.out⟩
end Go.Proofs.YtadaeecokkokjaaGreatDoor.Mc
/-
  The walks of layers 6 and 17: a stack's modes as letters; the state behind a word. Conditions: texts of at most 2^29 bytes.
-/
namespace Go.Proofs.YtadaeecokkokjaaGreatDoor.Mc
open Go.ChangeShapes Go.WideShapes Go.Deep Go.RowKit Cls Md
set_option linter.unusedSimpArgs false
set_option linter.unusedVariables false
set_option maxRecDepth 100000
end Go.Proofs.YtadaeecokkokjaaGreatDoor.Mc
/-
  The walk of layer 17: the state behind a word. Conditions: texts of at most 2^29 bytes.
-/
namespace Go.Proofs.YtadaeecokkokjaaGreatDoor.Mc
open Go.ChangeShapes Go.WideShapes Go.Deep Go.RowKit Cls Md
set_option linter.unusedSimpArgs false
set_option linter.unusedVariables false
set_option maxRecDepth 100000
end Go.Proofs.YtadaeecokkokjaaGreatDoor.Mc
namespace Go.Proofs.YtadaeecokkokjaaGreatDoor
open Go.RowKit
/-- A fence that asks nothing. -/
structure Lax (F : Fence) : Prop where
  fn : ∀ f, F.fn f
  depth : F.depth = none
  calls : ∀ (n : Nat) (P : Program) (f : FuncId) (args : Array Value) (w : World) (R : Ending → World → Prop), Calls P f args w R → CallsIn F n P f args w R
theorem lax_wide : Lax Fence.wide := ⟨fun _ => trivial, rfl, fun _ _ _ _ _ _ h => callsIn_wide.2 h⟩
theorem lax_round (l : Nat) : Lax (Fence.wide.inRound l) := ⟨fun _ => trivial, rfl, fun _ _ _ _ _ _ h => CallsIn.inRound l (callsIn_wide.2 h)⟩
def noDefer (ops : List Oper) : Bool := ops.all fun o => match o.op with
  | .defer _ => false
  | _ => true
theorem noDefer_spec {ops : List Oper} (h : noDefer ops = true) {i : Nat} {o : Oper} (hi : ops.toArray[i]? = some o) : ∀ c, o.op ≠ .defer c := by
  intro c hc
  have hm : o ∈ ops := List.mem_of_getElem? (by simpa using hi)
  have := List.all_eq_true.1 h o hm
  rw [hc] at this
  cases this
section
variable {F : Fence} {P : Program} {ops : Array Oper} {md : Region.Mode} {C : World → Prop} {m : Nat}
theorem Oper.wpIn_of_quietL {o : Oper} {a : Act} {K : Act → Prop} {K' : Act → World → Prop} {Q' : Exit → Act → World → Prop} {w : World} (hF : Lax F) (hd : ∀ c, o.op ≠ .defer c) (hw : C w) (h : ∀ a w', C w' → K a → K' a w')
    (hh : o.quiet P a C K) : o.wpIn F m P a w K' Q' := by
  obtain ⟨v, h1, h2⟩ := hh
  have h3 := h1 w hw
  unfold Oper.quietAt at h3
  unfold Oper.wpIn
  refine ⟨fun f _ => hF.fn f, ?_⟩
  rw [Oper.semAt_plain F _ _ hd]
  generalize (execOp a.eval o).run P w = r at *
  cases r with
  | ok x w' =>
    cases x <;> simp only [Oper.quietUpon] at h3 <;> simp only [Oper.uponIn]
    case value u =>
      obtain ⟨e1, e2⟩ := h3
      rw [e1, e2]
      exact h _ _ hw h2
    case skip =>
      obtain ⟨e1, e2⟩ := h3
      rw [e1, ← e2]
      exact h _ _ hw h2
    case enter f args =>
      obtain ⟨e1, hc⟩ := h3
      rw [e1]
      exact ⟨fun h => (by rw [hF.depth] at h; cases h), hF.calls _ _ _ _ _ _ (hc.mono fun e w'' ⟨he, hw''⟩ => by subst he; exact h _ _ hw'' h2)⟩
  | halt x w' => simp only [Oper.quietUpon] at h3
theorem wpOpIn_of_qOpL {i : Nat} {a : Act} {K : Act → Prop} {K' : Act → World → Prop} {Q' : Exit → Act → World → Prop} {w : World} (hF : Lax F) (hd : ∀ (i : Nat) (o : Oper), ops[i]? = some o → ∀ c, o.op ≠ .defer c) (hC : C w) (h : ∀ a w', C w' → K a → K' a w')
    (hh : qOp P ops C i K a) : wpOpIn F m P ops Q' i K' a w := by
  unfold qOp at hh
  unfold wpOpIn
  split
  · rename_i ho; simp only [ho] at hh; exact h _ _ hC hh
  · rename_i o ho
    simp only [ho] at hh
    split
    · rename_i hw; simp only [hw, if_true] at hh; exact Oper.wpIn_of_quietL hF (hd i o ho) hC h hh
    · rename_i hw; simp only [hw] at hh; exact ⟨fun f _ => hF.fn f, h _ _ hC hh⟩
theorem headAllIn_any {n g : Nat} {L : Array Bool → Act → Prop} {Q : Exit → Act → World → Prop} (hF : Lax F) (hd : ∀ (i : Nat) (o : Oper), ops[i]? = some o → ∀ c, o.op ≠ .defer c) (hL : ∀ d a w, C w → L d a → wpAnyIn F m P md ops Q g d a w) :
    ∀ (f : Nat) (d : Array Bool) (a : Act) (w : World), C w → headAll P md ops C n L f d a → wpAnyIn F m P md ops Q (f + g) d a w
  | 0, d, a, w, hw, h => by rw [Nat.zero_add]; exact hL _ _ _ hw h
  | f + 1, d, a, w, hw, h => by
    have e : f + 1 + g = (f + g) + 1 := by omega
    rw [e]
    exact ⟨fun h0 => (h.1 h0).elim, fun i hi => wpOpIn_of_qOpL hF hd hw (fun a' w' hw' h' => headAllIn_any hF hd hL f _ a' w' hw' h') (h.2 i hi).2⟩
theorem wpAnyIn_of_seq {Q' : Exit → Act → World → Prop} : ∀ (l : List Oper) (k : Nat) (listed : Array Bool) (a : Act) (w : World), (∀ j, l[j]? = ops[k + j]?) →
    Region.seqB md ops l.length k listed = true → wpListIn F m P ops Q' l a w → wpAnyIn F m P md ops Q' l.length listed a w
  | [], _, _, _, _, _, hB, h => ⟨by simpa [Region.seqB] using hB, h⟩
  | o :: l, k, listed, a, w, hl, hB, h => by
    have h0 : ops[k]? = some o := by simpa using (hl 0).symm
    simp only [List.length_cons, Region.seqB, Bool.and_eq_true, decide_eq_true_eq] at hB
    refine ⟨fun h1 => (by rw [hB.1] at h1; cases h1), fun i hi => ?_⟩
    rw [hB.1] at hi
    have hik : i = k := by simpa using hi
    subst hik
    have hw : wpOpIn F m P ops Q' i (wpListIn F m P ops Q' l) a w := by unfold wpOpIn; simp only [h0]; exact h
    exact wpOpIn_mono (fun a' w' h' => wpAnyIn_of_seq l (i + 1) _ a' w' (fun j => by have := hl (j + 1); simpa [Nat.add_assoc, Nat.add_comm 1 j] using this) hB.2 h') hw
theorem wpIn_region_grow_tail {id : Nat} {Q : Exit → Act → World → Prop} {a : Act} {w : World} {l : List Oper} (n : Nat) (hF : Lax F) (hm : P.follows .mixedOrders = true) (hB : Region.lexTailB .any l.toArray n = true) (hd : noDefer l = true)
    (h : wpQuiet P l.toArray (fun w' => ∃ g : GrowOf w, w' = grow w g) (fun a' => ∀ w', (∃ g : GrowOf w, w' = grow w g) → wpListIn F m P l.toArray Q (l.drop n) a' w') (l.take n) a) : (Code.region id l.toArray true).wpIn F m P Q a w := by
  simp only [Region.lexTailB, Bool.and_eq_true, decide_eq_true_eq] at hB
  obtain ⟨⟨⟨⟨hsel, hn⟩, hs⟩, hc⟩, hlex⟩ := hB
  have hn' : n < l.length := by simpa using hn
  have htl : (l.take n).length = n := by simp; omega
  have hdl : (l.drop n).length = l.toArray.size - n := by simp
  have inv0 : HeadInv .any l.toArray n (Array.replicate l.toArray.size false) :=
    ⟨by simp, fun j oj _ hl => (by rw [getD_replicate_false] at hl; cases hl), fun t _ ht => getD_in (by simpa using ht) (getD_replicate_false _ _)⟩
  have H := headAll_lex (md := .any) (C := fun w' => ∃ g : GrowOf w, w' = grow w g) (g := l.toArray.size - n) hsel hs hc hn (l.take n) 0 _ a (fun j hj => by
    have hj' : j < n := by omega
    simp [hj']) (by omega) inv0 (by rw [htl]; exact hlex) h
  refine wpIn_region_any hm ?_
  have := headAllIn_any (m := m) (Q := Q) (g := l.toArray.size - n) hF (fun i o hi => noDefer_spec hd hi) (fun d a w' hw' hL => by
    have := wpAnyIn_of_seq (F := F) (m := m) (md := .any) (Q' := Q) (l.drop n) n d a w' (fun j => by simp [List.getElem?_drop]) (by rw [hdl]; exact hL.1) (hL.2 w' hw')
    rwa [hdl] at this) _ _ _ _ (drewN_grow w 1) H
  rw [htl] at this
  have e : n + (l.toArray.size - n) = l.toArray.size := by omega
  rwa [e] at this
theorem wpAnyIn_of_quietL {Q : Act → Prop} {Q' : Exit → Act → World → Prop} (hF : Lax F) (hd : ∀ (i : Nat) (o : Oper), ops[i]? = some o → ∀ c, o.op ≠ .defer c) (hQ : ∀ a w, C w → Q a → Q' .normal a w) : ∀ (fuel : Nat) (listed : Array Bool) (a : Act) (w : World), C w →
    wpAnyQ P md ops C Q fuel listed a → wpAnyIn F m P md ops Q' fuel listed a w
  | 0, _, _, _, hw, h => ⟨h.1, hQ _ _ hw h.2⟩
  | fuel + 1, _, _, _, hw, h => ⟨fun h0 => hQ _ _ hw (h.1 h0), fun i hi => wpOpIn_of_qOpL hF hd hw (fun a' w' hw' => wpAnyIn_of_quietL hF hd hQ fuel _ a' w' hw') (h.2 i hi)⟩
theorem wpIn_region_growL {id : Nat} {Q : Exit → Act → World → Prop} {a : Act} {w : World} {l : List Oper} (hF : Lax F) (hm : P.follows .mixedOrders = true) (hB : Region.lexB .any l.toArray = true) (hd : noDefer l = true)
    (h : wpQuiet P l.toArray (fun w' => ∃ g : GrowOf w, w' = grow w g) (fun a' => ∀ w', (∃ g : GrowOf w, w' = grow w g) → Q .normal a' w') l a) : (Code.region id l.toArray true).wpIn F m P Q a w := by
  simp only [Region.lexB, Bool.and_eq_true] at hB
  refine wpIn_region_any hm (wpAnyIn_of_quietL (C := fun w' => ∃ g : GrowOf w, w' = grow w g) (Q := fun a' => ∀ w', (∃ g : GrowOf w, w' = grow w g) → Q .normal a' w') hF (fun i o hi => noDefer_spec hd hi) (fun _ w' hw' h => h w' hw') _ _ _ _ (drewN_grow w 1) ?_)
  have := wpAnyQ_lex (P := P) (C := fun w' => ∃ g : GrowOf w, w' = grow w g) (md := .any) hB.1 l 0 (Array.replicate l.toArray.size false) a (by simp) (by simpa using hB.2) h
  simpa using this
end
end Go.Proofs.YtadaeecokkokjaaGreatDoor
