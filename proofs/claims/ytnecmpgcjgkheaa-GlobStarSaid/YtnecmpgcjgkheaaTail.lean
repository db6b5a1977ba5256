/-
  A region that draws its order, whose first n operations are quiet in a class of worlds (they read, or call what at most makes memory), and whose other operations come behind all of these, one by one: one walk in the order of the text. No program in sight.
-/
import Derived.Test.YtnecmpgcjgkheaaBase
import Derived.StillTail
set_option linter.unusedSimpArgs false
set_option linter.unusedVariables false
namespace Go.Proofs.Ytnecmpgcjgkheaa
open Go.RowKit
section
variable {P : Program} {ops : Array Oper} {md : Region.Mode} {C : World → Prop}
/-- Whatever order is picked, f operations on: each is one of the first n and quiet; then L. -/
def headAll (P : Program) (md : Region.Mode) (ops : Array Oper) (C : World → Prop) (n : Nat) (L : Array Bool → Act → Prop) : Nat → Array Bool → Act → Prop
  | 0, d, a => L d a
  | f + 1, d, a => Region.ready md ops d ≠ [] ∧ ∀ i ∈ Region.ready md ops d, i < n ∧ qOp P ops C i (headAll P md ops C n L f (d.setIfInBounds i true)) a
theorem headAll_any {n g : Nat} {L : Array Bool → Act → Prop} {Q : Exit → Act → World → Prop} (hL : ∀ d a w, C w → L d a → wpAny P md ops Q g d a w) :
    ∀ (f : Nat) (d : Array Bool) (a : Act) (w : World), C w → headAll P md ops C n L f d a → wpAny P md ops Q (f + g) d a w
  | 0, d, a, w, hw, h => by rw [Nat.zero_add]; exact hL _ _ _ hw h
  | f + 1, d, a, w, hw, h => by
    have e : f + 1 + g = (f + g) + 1 := by omega
    rw [e]
    exact ⟨fun h0 => (h.1 h0).elim, fun i hi => wpOp_of_qOp hw (fun a' w' hw' h' => headAll_any hL f _ a' w' hw' h') (h.2 i hi).2⟩
theorem head_lt {n i j : Nat} {d : Array Bool} (hs : Region.sinkB md ops n = true) (hc : Region.chainB md ops n = true) (hn : n < ops.size) (inv : HeadInv md ops n d) (hi : i < n) (hun : d.getD i true = false)
    (hj : j ∈ Region.ready md ops d) : j < n :=
  Nat.lt_of_not_le fun h => tail_waits hs hc hn inv _ i rfl hi hun j h hj
theorem headAll_first {n i : Nat} {oi : Oper} {v : Value} {L : Array Bool → Act → Prop} (hi : ops[i]? = some oi) (hsel : ∀ (j : Nat) (o : Oper) cs b, ops[j]? = some o → o.op ≠ .select cs b)
    (hs : Region.sinkB md ops n = true) (hc : Region.chainB md ops n = true) (hn : n < ops.size) (hin : i < n) (hdone : ∀ d a, L d a → ∀ j ∈ Region.ready md ops d, n ≤ j)
    (f : Nat) : ∀ (d : Array Bool) (a : Act), HeadInv md ops n d →
      (∀ j oj, ops[j]? = some oj → j ≠ i → d.getD j true = false → (∀ e ∈ oj.after, Region.binds md e = true → e.on ≠ i) → oi.apart ops oj = true) →
      i ∈ Region.ready md ops d → YieldsIn P ops C oi v a → headAll P md ops C n L f (d.setIfInBounds i true) (a.put oi.dst v) → headAll P md ops C n L (f + 1) d a := by
  induction f with
  | zero =>
    intro d a inv _ hr hy H
    have hun := (mem_ready.1 hr).1
    refine ⟨List.ne_nil_of_mem hr, fun j hj => ⟨head_lt hs hc hn inv hin hun hj, ?_⟩⟩
    rcases Nat.decEq j i with hji | hji
    · have h1 := hdone _ _ H j (ready_mono hj hji)
      have h2 := head_lt hs hc hn inv hin hun hj
      omega
    · rw [hji]; exact hy.qOp hi H
  | succ f ih =>
    intro d a inv hfree hr hy H
    have hun := (mem_ready.1 hr).1
    refine ⟨List.ne_nil_of_mem hr, fun j hj => ⟨head_lt hs hc hn inv hin hun hj, ?_⟩⟩
    rcases Nat.decEq j i with hji | hji
    · obtain ⟨hjun, oj, hoj, hall⟩ := mem_ready.1 hj
      have hw : ∀ e ∈ oj.after, Region.binds md e = true → e.on ≠ i := by
        intro e he hb heq
        have h1 := hall e he hb
        rw [heq, getD_both hun] at h1
        exact Bool.noConfusion h1
      have h2 := qOp_put hoj (hfree j oj hoj hji hjun hw) (fun cs b => hsel i oi cs b hi) (fun cs b => hsel j oj cs b hoj) hy (H.2 j (ready_mono hj hji)).2
      refine qOp_mono (fun a' h3 => ih _ a' (inv.set hj (head_lt hs hc hn inv hin hun hj)) ?_ (ready_mono hr (Ne.symm hji)) h3.1 ?_) h2
      · intro k ok hk hki hkun hno
        refine hfree k ok hk hki ?_ hno
        rcases Nat.decEq k j with hkj | hkj
        · rwa [getD_set_ne true (Ne.symm hkj)] at hkun
        · rw [hkj]; exact hjun
      · rw [Array.setIfInBounds_comm _ _ hji]; exact h3.2
    · rw [hji]; exact hy.qOp hi H
theorem headAll_lex {n g : Nat} {T : Act → Prop} (hsel : Region.noSelect ops = true) (hs : Region.sinkB md ops n = true) (hc : Region.chainB md ops n = true) (hn : n < ops.size) :
    ∀ (l : List Oper) (k : Nat) (d : Array Bool) (a : Act), (∀ j, j < l.length → l[j]? = ops[k + j]?) → k + l.length = n → HeadInv md ops n d →
    Region.lexHead md ops g l.length k d = true → wpQuiet P ops C T l a → headAll P md ops C n (fun d' a' => Region.seqB md ops g n d' = true ∧ T a') l.length d a
  | [], k, d, a, _, hk, _, hB, h => by
    obtain rfl : k = n := by simpa using hk
    exact ⟨by simpa [Region.lexHead] using hB, h⟩
  | o :: l, k, d, a, hl, hk, inv, hB, h => by
    have h0 : ops[k]? = some o := by simpa using (hl 0 (by simp)).symm
    simp only [List.length_cons, Region.lexHead, Bool.and_eq_true] at hB
    simp only [List.length_cons] at hk
    have hr : k ∈ Region.ready md ops d := by simpa using hB.1.1
    obtain ⟨v, hy, hK⟩ := yieldsIn_of_qOp (K := wpQuiet P ops C T l) h0 (by unfold qOp; simp only [h0]; exact h)
    exact headAll_first h0 (Region.noSelect_spec hsel) hs hc hn (by omega) (fun d' a' hL => seqB_ready hL.1) l.length d a inv (Region.free_spec h0 hB.1.2) hr hy
      (headAll_lex hsel hs hc hn l (k + 1) _ _ (fun j hj => by have := hl (j + 1) (by simp; omega); simpa [Nat.add_assoc, Nat.add_comm 1 j] using this) (by omega) (inv.set hr (by omega)) hB.2 hK)
theorem wp_region_grow_tail {id : Nat} {Q : Exit → Act → World → Prop} {a : Act} {w : World} {l : List Oper} (n : Nat) (hm : P.follows .mixedOrders = true) (hB : Region.lexTailB .any l.toArray n = true)
    (h : wpQuiet P l.toArray (fun w' => ∃ g : GrowOf w, w' = grow w g) (fun a' => ∀ w', (∃ g : GrowOf w, w' = grow w g) → wpList P l.toArray Q (l.drop n) a' w') (l.take n) a) : (Code.region id l.toArray true).wp P Q a w := by
  simp only [Region.lexTailB, Bool.and_eq_true, decide_eq_true_eq] at hB
  obtain ⟨⟨⟨⟨hsel, hn⟩, hs⟩, hc⟩, hlex⟩ := hB
  have hn' : n < l.length := by simpa using hn
  have htl : (l.take n).length = n := by simp; omega
  have hdl : (l.drop n).length = l.toArray.size - n := by simp
  have inv0 : HeadInv .any l.toArray n (Array.replicate l.toArray.size false) :=
    ⟨by simp, fun j oj _ hl => (by rw [getD_replicate_false] at hl; cases hl), fun t _ ht => getD_in (by simpa using ht) (getD_replicate_false _ _)⟩
  have H := headAll_lex (md := .any) (C := fun w' => ∃ g : GrowOf w, w' = grow w g) (g := l.toArray.size - n) hsel hs hc hn (l.take n) 0 _ a (fun j hj => by
    have hj' : j < n := by omega
    simp [hj']) (by omega) inv0 (by rw [htl]; exact hlex) h
  refine wp_region_any hm ?_
  have := headAll_any (Q := Q) (g := l.toArray.size - n) (fun d a' w' hw' hL => by
    have := wpAny_of_seq (md := .any) (Q' := Q) (l.drop n) n d a' w' (fun j => by simp [List.getElem?_drop]) (by rw [hdl]; exact hL.1) (hL.2 w' hw')
    rwa [hdl] at this) _ _ _ _ (drewN_grow w 1) H
  rw [htl] at this
  have e : n + (l.toArray.size - n) = l.toArray.size := by omega
  rwa [e] at this
end
end Go.Proofs.Ytnecmpgcjgkheaa
