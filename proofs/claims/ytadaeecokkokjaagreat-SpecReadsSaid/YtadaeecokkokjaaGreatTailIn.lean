/-
  Regions that draw their order, inside a fence that asks nothing (in a round of a loop over an iterator; in an iterator, at its calls of yield): the plain laws turned. No program in sight.
-/
import Derived.Test.YtadaeecokkokjaaGreatHist
import Derived.Test.YtadaeecokkokjaaGreatIter
import Derived.OrdersIn
set_option linter.unusedSimpArgs false
set_option linter.unusedVariables false
namespace Go.Proofs.YtadaeecokkokjaaGreat
open Go.RowKit
/-- A fence that asks nothing. -/
structure Lax (F : Fence) : Prop where
  fn : ∀ f, F.fn f
  depth : F.depth = none
  calls : ∀ (n : Nat) (P : Program) (f : FuncId) (args : Array Value) (w : World) (R : Ending → World → Prop), Calls P f args w R → CallsIn F n P f args w R
theorem lax_wide : Lax Fence.wide := ⟨fun _ => trivial, rfl, fun _ _ _ _ _ _ h => callsIn_wide.2 h⟩
theorem lax_round (l : Nat) : Lax (Fence.wide.inRound l) := ⟨fun _ => trivial, rfl, fun _ _ _ _ _ _ h => CallsIn.inRound l (callsIn_wide.2 h)⟩
def noDefer (ops : List Oper) : Bool := ops.all fun o => match o.op with
  | .defer _ => false
  | _ => true
theorem noDefer_spec {ops : List Oper} (h : noDefer ops = true) {i : Nat} {o : Oper} (hi : ops.toArray[i]? = some o) : ∀ c, o.op ≠ .defer c := by
  intro c hc
  have hm : o ∈ ops := List.mem_of_getElem? (by simpa using hi)
  have := List.all_eq_true.1 h o hm
  rw [hc] at this
  cases this
section
variable {F : Fence} {P : Program} {ops : Array Oper} {md : Region.Mode} {C : World → Prop} {m : Nat}
theorem Oper.wpIn_of_quietL {o : Oper} {a : Act} {K : Act → Prop} {K' : Act → World → Prop} {Q' : Exit → Act → World → Prop} {w : World} (hF : Lax F) (hd : ∀ c, o.op ≠ .defer c) (hw : C w) (h : ∀ a w', C w' → K a → K' a w')
    (hh : o.quiet P a C K) : o.wpIn F m P a w K' Q' := by
  obtain ⟨v, h1, h2⟩ := hh
  have h3 := h1 w hw
  unfold Oper.quietAt at h3
  unfold Oper.wpIn
  refine ⟨fun f _ => hF.fn f, ?_⟩
  rw [Oper.semAt_plain F _ _ hd]
  generalize (execOp a.eval o).run P w = r at *
  cases r with
  | ok x w' =>
    cases x <;> simp only [Oper.quietUpon] at h3 <;> simp only [Oper.uponIn]
    case value u =>
      obtain ⟨e1, e2⟩ := h3
      rw [e1, e2]
      exact h _ _ hw h2
    case skip =>
      obtain ⟨e1, e2⟩ := h3
      rw [e1, ← e2]
      exact h _ _ hw h2
    case enter f args =>
      obtain ⟨e1, hc⟩ := h3
      rw [e1]
      exact ⟨fun h => (by rw [hF.depth] at h; cases h), hF.calls _ _ _ _ _ _ (hc.mono fun e w'' ⟨he, hw''⟩ => by subst he; exact h _ _ hw'' h2)⟩
  | halt x w' => simp only [Oper.quietUpon] at h3
theorem wpOpIn_of_qOpL {i : Nat} {a : Act} {K : Act → Prop} {K' : Act → World → Prop} {Q' : Exit → Act → World → Prop} {w : World} (hF : Lax F) (hd : ∀ (i : Nat) (o : Oper), ops[i]? = some o → ∀ c, o.op ≠ .defer c) (hC : C w) (h : ∀ a w', C w' → K a → K' a w')
    (hh : qOp P ops C i K a) : wpOpIn F m P ops Q' i K' a w := by
  unfold qOp at hh
  unfold wpOpIn
  split
  · rename_i ho; simp only [ho] at hh; exact h _ _ hC hh
  · rename_i o ho
    simp only [ho] at hh
    split
    · rename_i hw; simp only [hw, if_true] at hh; exact Oper.wpIn_of_quietL hF (hd i o ho) hC h hh
    · rename_i hw; simp only [hw] at hh; exact ⟨fun f _ => hF.fn f, h _ _ hC hh⟩
theorem headAllIn_any {n g : Nat} {L : Array Bool → Act → Prop} {Q : Exit → Act → World → Prop} (hF : Lax F) (hd : ∀ (i : Nat) (o : Oper), ops[i]? = some o → ∀ c, o.op ≠ .defer c) (hL : ∀ d a w, C w → L d a → wpAnyIn F m P md ops Q g d a w) :
    ∀ (f : Nat) (d : Array Bool) (a : Act) (w : World), C w → headAll P md ops C n L f d a → wpAnyIn F m P md ops Q (f + g) d a w
  | 0, d, a, w, hw, h => by rw [Nat.zero_add]; exact hL _ _ _ hw h
  | f + 1, d, a, w, hw, h => by
    have e : f + 1 + g = (f + g) + 1 := by omega
    rw [e]
    exact ⟨fun h0 => (h.1 h0).elim, fun i hi => wpOpIn_of_qOpL hF hd hw (fun a' w' hw' h' => headAllIn_any hF hd hL f _ a' w' hw' h') (h.2 i hi).2⟩
theorem wpAnyIn_of_seq {Q' : Exit → Act → World → Prop} : ∀ (l : List Oper) (k : Nat) (listed : Array Bool) (a : Act) (w : World), (∀ j, l[j]? = ops[k + j]?) →
    Region.seqB md ops l.length k listed = true → wpListIn F m P ops Q' l a w → wpAnyIn F m P md ops Q' l.length listed a w
  | [], _, _, _, _, _, hB, h => ⟨by simpa [Region.seqB] using hB, h⟩
  | o :: l, k, listed, a, w, hl, hB, h => by
    have h0 : ops[k]? = some o := by simpa using (hl 0).symm
    simp only [List.length_cons, Region.seqB, Bool.and_eq_true, decide_eq_true_eq] at hB
    refine ⟨fun h1 => (by rw [hB.1] at h1; cases h1), fun i hi => ?_⟩
    rw [hB.1] at hi
    have hik : i = k := by simpa using hi
    subst hik
    have hw : wpOpIn F m P ops Q' i (wpListIn F m P ops Q' l) a w := by unfold wpOpIn; simp only [h0]; exact h
    exact wpOpIn_mono (fun a' w' h' => wpAnyIn_of_seq l (i + 1) _ a' w' (fun j => by have := hl (j + 1); simpa [Nat.add_assoc, Nat.add_comm 1 j] using this) hB.2 h') hw
theorem wpIn_region_grow_tail {id : Nat} {Q : Exit → Act → World → Prop} {a : Act} {w : World} {l : List Oper} (n : Nat) (hF : Lax F) (hm : P.follows .mixedOrders = true) (hB : Region.lexTailB .any l.toArray n = true) (hd : noDefer l = true)
    (h : wpQuiet P l.toArray (fun w' => ∃ g : GrowOf w, w' = grow w g) (fun a' => ∀ w', (∃ g : GrowOf w, w' = grow w g) → wpListIn F m P l.toArray Q (l.drop n) a' w') (l.take n) a) : (Code.region id l.toArray true).wpIn F m P Q a w := by
  simp only [Region.lexTailB, Bool.and_eq_true, decide_eq_true_eq] at hB
  obtain ⟨⟨⟨⟨hsel, hn⟩, hs⟩, hc⟩, hlex⟩ := hB
  have hn' : n < l.length := by simpa using hn
  have htl : (l.take n).length = n := by simp; omega
  have hdl : (l.drop n).length = l.toArray.size - n := by simp
  have inv0 : HeadInv .any l.toArray n (Array.replicate l.toArray.size false) :=
    ⟨by simp, fun j oj _ hl => (by rw [getD_replicate_false] at hl; cases hl), fun t _ ht => getD_in (by simpa using ht) (getD_replicate_false _ _)⟩
  have H := headAll_lex (md := .any) (C := fun w' => ∃ g : GrowOf w, w' = grow w g) (g := l.toArray.size - n) hsel hs hc hn (l.take n) 0 _ a (fun j hj => by
    have hj' : j < n := by omega
    simp [hj']) (by omega) inv0 (by rw [htl]; exact hlex) h
  refine wpIn_region_any hm ?_
  have := headAllIn_any (m := m) (Q := Q) (g := l.toArray.size - n) hF (fun i o hi => noDefer_spec hd hi) (fun d a w' hw' hL => by
    have := wpAnyIn_of_seq (F := F) (m := m) (md := .any) (Q' := Q) (l.drop n) n d a w' (fun j => by simp [List.getElem?_drop]) (by rw [hdl]; exact hL.1) (hL.2 w' hw')
    rwa [hdl] at this) _ _ _ _ (drewN_grow w 1) H
  rw [htl] at this
  have e : n + (l.toArray.size - n) = l.toArray.size := by omega
  rwa [e] at this
theorem wpAnyIn_of_quietL {Q : Act → Prop} {Q' : Exit → Act → World → Prop} (hF : Lax F) (hd : ∀ (i : Nat) (o : Oper), ops[i]? = some o → ∀ c, o.op ≠ .defer c) (hQ : ∀ a w, C w → Q a → Q' .normal a w) : ∀ (fuel : Nat) (listed : Array Bool) (a : Act) (w : World), C w →
    wpAnyQ P md ops C Q fuel listed a → wpAnyIn F m P md ops Q' fuel listed a w
  | 0, _, _, _, hw, h => ⟨h.1, hQ _ _ hw h.2⟩
  | fuel + 1, _, _, _, hw, h => ⟨fun h0 => hQ _ _ hw (h.1 h0), fun i hi => wpOpIn_of_qOpL hF hd hw (fun a' w' hw' => wpAnyIn_of_quietL hF hd hQ fuel _ a' w' hw') (h.2 i hi)⟩
theorem wpIn_region_growL {id : Nat} {Q : Exit → Act → World → Prop} {a : Act} {w : World} {l : List Oper} (hF : Lax F) (hm : P.follows .mixedOrders = true) (hB : Region.lexB .any l.toArray = true) (hd : noDefer l = true)
    (h : wpQuiet P l.toArray (fun w' => ∃ g : GrowOf w, w' = grow w g) (fun a' => ∀ w', (∃ g : GrowOf w, w' = grow w g) → Q .normal a' w') l a) : (Code.region id l.toArray true).wpIn F m P Q a w := by
  simp only [Region.lexB, Bool.and_eq_true] at hB
  refine wpIn_region_any hm (wpAnyIn_of_quietL (C := fun w' => ∃ g : GrowOf w, w' = grow w g) (Q := fun a' => ∀ w', (∃ g : GrowOf w, w' = grow w g) → Q .normal a' w') hF (fun i o hi => noDefer_spec hd hi) (fun _ w' hw' h => h w' hw') _ _ _ _ (drewN_grow w 1) ?_)
  have := wpAnyQ_lex (P := P) (C := fun w' => ∃ g : GrowOf w, w' = grow w g) (md := .any) hB.1 l 0 (Array.replicate l.toArray.size false) a (by simp) (by simpa using hB.2) h
  simpa using this
end
end Go.Proofs.YtadaeecokkokjaaGreat
