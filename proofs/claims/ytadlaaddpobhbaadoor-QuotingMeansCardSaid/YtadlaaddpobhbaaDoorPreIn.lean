/-
  Regions that draw their order, inside the wide fence: the first operations forced, one by one, whatever they do; then quiet ones; then a forced tail. No program in sight.
-/
import Derived.Test.YtadlaaddpobhbaaDoorTailIn
namespace Go.Proofs.YtadlaaddpobhbaaDoor
open Go.RowKit
/-- Where a list of operations ends well: K; else Q. -/
def preQ (Q : Exit → Act → World → Prop) (K : Act → World → Prop) : Exit → Act → World → Prop
  | .normal, a, w => K a w
  | .exit i, a, w => Q (.exit i) a w
  | .goto l, a, w => Q (.goto l) a w
  | .ret, a, w => Q .ret a w
  | .panic c, a, w => Q (.panic c) a w
  | .outgrown, a, w => Q .outgrown a w
@[go_sem] theorem preQ_normal {Q : Exit → Act → World → Prop} {K : Act → World → Prop} {a : Act} {w : World} : preQ Q K .normal a w = K a w := rfl
section
variable {F : Fence} {P : Program} {ops : Array Oper} {md : Region.Mode} {m : Nat} {Q : Exit → Act → World → Prop}
theorem Oper.wpIn_pre {o : Oper} {a : Act} {w : World} {K K' K2 : Act → World → Prop} (h : ∀ a w, K a w → K' a w) (hh : o.wpIn F m P a w K (preQ Q K2)) : o.wpIn F m P a w K' Q := by
  unfold Oper.wpIn at *
  refine ⟨hh.1, ?_⟩
  have hh := hh.2
  generalize (o.semAt F.round a.eval).run P w = r at *
  cases r with
  | ok x w' =>
    cases x <;> simp only [Oper.uponIn] at hh ⊢ <;>
      first
        | exact h _ _ hh
        | exact ⟨hh.1, CallsIn.mono hh.2 (fun e w'' he => by cases e <;> first | exact h _ _ he | exact he)⟩
        | exact ⟨hh.1, RowsIn.mono hh.2 (fun _ _ he => h _ _ he)⟩
        | exact ⟨hh.1, RoundIn.mono hh.2 (fun e w'' he => by cases e <;> first | exact h _ _ he | exact he)⟩
  | halt x w' => cases x <;> simp only [Oper.uponIn] at hh ⊢ <;> exact hh
theorem Oper.wpIn_pre2 {o : Oper} {a : Act} {w : World} {K K' K2 K3 : Act → World → Prop} (h : ∀ a w, K a w → K' a w) (hh : o.wpIn F m P a w K (preQ Q K2)) : o.wpIn F m P a w K' (preQ Q K3) := by
  unfold Oper.wpIn at *
  refine ⟨hh.1, ?_⟩
  have hh := hh.2
  generalize (o.semAt F.round a.eval).run P w = r at *
  cases r with
  | ok x w' =>
    cases x <;> simp only [Oper.uponIn] at hh ⊢ <;>
      first
        | exact h _ _ hh
        | exact ⟨hh.1, CallsIn.mono hh.2 (fun e w'' he => by cases e <;> first | exact h _ _ he | exact he)⟩
        | exact ⟨hh.1, RowsIn.mono hh.2 (fun _ _ he => h _ _ he)⟩
        | exact ⟨hh.1, RoundIn.mono hh.2 (fun e w'' he => by cases e <;> first | exact h _ _ he | exact he)⟩
  | halt x w' => cases x <;> simp only [Oper.uponIn] at hh ⊢ <;> exact hh
theorem wpListIn_preMono {K2 K3 : Act → World → Prop} (h : ∀ a w, K2 a w → K3 a w) : ∀ (l : List Oper) (a : Act) (w : World), wpListIn F m P ops (preQ Q K2) l a w → wpListIn F m P ops (preQ Q K3) l a w
  | [], a, w, hh => h a w hh
  | o :: l, a, w, hh => by
    unfold wpListIn at hh ⊢
    split
    · rename_i hw
      rw [if_pos hw] at hh
      exact Oper.wpIn_pre2 (fun a w h' => wpListIn_preMono h l a w h') hh
    · rename_i hw
      rw [if_neg hw] at hh
      exact ⟨hh.1, wpListIn_preMono h l _ _ hh.2⟩
def preB (md : Region.Mode) (ops : Array Oper) : Nat → Nat → Array Bool → Bool
  | 0, _, _ => true
  | c + 1, k, d => decide (Region.ready md ops d = [k]) && preB md ops c (k + 1) (d.setIfInBounds k true)
def preD : Nat → Nat → Array Bool → Array Bool
  | 0, _, d => d
  | c + 1, k, d => preD c (k + 1) (d.setIfInBounds k true)
theorem wpAnyIn_pre {fuel : Nat} : ∀ (l : List Oper) (k : Nat) (d : Array Bool) (a : Act) (w : World), (∀ j, j < l.length → l[j]? = ops[k + j]?) → preB md ops l.length k d = true →
    wpListIn F m P ops (preQ Q fun a w => wpAnyIn F m P md ops Q fuel (preD l.length k d) a w) l a w → wpAnyIn F m P md ops Q (l.length + fuel) d a w
  | [], k, d, a, w, _, _, h => by simpa [wpListIn, preD, preQ] using h
  | o :: l, k, d, a, w, hl, hB, h => by
    have h0 : ops[k]? = some o := by simpa using (hl 0 (by simp)).symm
    simp only [List.length_cons, preB, Bool.and_eq_true, decide_eq_true_eq] at hB
    rw [show (o :: l).length + fuel = (l.length + fuel) + 1 by simp; omega]
    refine ⟨fun h1 => (by rw [hB.1] at h1; cases h1), fun i hi => ?_⟩
    rw [hB.1] at hi
    have hik : i = k := by simpa using hi
    subst hik
    have hrec : ∀ a w, wpListIn F m P ops (preQ Q fun a w => wpAnyIn F m P md ops Q fuel (preD (o :: l).length i d) a w) l a w → wpAnyIn F m P md ops Q (l.length + fuel) (d.setIfInBounds i true) a w :=
      fun a w h' => wpAnyIn_pre l (i + 1) _ a w (fun j hj => by have := hl (j + 1) (by simp; omega); simpa [Nat.add_assoc, Nat.add_comm 1 j] using this) hB.2 h'
    unfold wpListIn at h
    unfold wpOpIn
    simp only [h0]
    split
    · rename_i hw
      rw [if_pos hw] at h
      exact Oper.wpIn_pre hrec h
    · rename_i hw
      rw [if_neg hw] at h
      exact ⟨h.1, hrec _ _ h.2⟩
theorem headInv_pre {n : Nat} : ∀ (c k : Nat) (d : Array Bool), HeadInv md ops n d → preB md ops c k d = true → k + c ≤ n → HeadInv md ops n (preD c k d)
  | 0, _, _, inv, _, _ => inv
  | c + 1, k, d, inv, hB, hk => by
    simp only [preB, Bool.and_eq_true, decide_eq_true_eq] at hB
    exact headInv_pre c (k + 1) _ (inv.set (by rw [hB.1]; simp) (by omega)) hB.2 (by omega)
/-- The first k operations are forced; those up to n quiet; the others forced. -/
def preTailB (ops : Array Oper) (k n : Nat) : Bool :=
  preB .any ops k 0 (Array.replicate ops.size false) && (Region.noSelect ops && decide (n < ops.size) && Region.sinkB .any ops n && Region.chainB .any ops n && decide (k ≤ n)) && Region.lexHead .any ops (ops.size - n) (n - k) k (preD k 0 (Array.replicate ops.size false))
theorem wpIn_region_pre_tail {id : Nat} {a : Act} {w : World} {l : List Oper} (k n : Nat) (hF : Lax F) (hm : P.follows .mixedOrders = true) (hB : preTailB l.toArray k n = true) (hd : noDefer l = true)
    (h : wpListIn F m P l.toArray (preQ Q fun a1 w1 => wpQuiet P l.toArray (fun w' => ∃ g : GrowOf w1, w' = grow w1 g) (fun a' => ∀ w', (∃ g : GrowOf w1, w' = grow w1 g) → wpListIn F m P l.toArray Q (l.drop n) a' w') ((l.take n).drop k) a1) (l.take k) a w.drew) : (Code.region id l.toArray true).wpIn F m P Q a w := by
  simp only [preTailB, Bool.and_eq_true, decide_eq_true_eq] at hB
  obtain ⟨⟨hpre, ⟨⟨⟨⟨hsel, hn⟩, hs⟩, hc⟩, hkn⟩⟩, hlex⟩ := hB
  have hn' : n < l.length := by simpa using hn
  have hkl : (l.take k).length = k := by simp; omega
  have htl : ((l.take n).drop k).length = n - k := by simp; omega
  have hdl : (l.drop n).length = l.toArray.size - n := by simp
  have inv0 : HeadInv .any l.toArray n (Array.replicate l.toArray.size false) :=
    ⟨by simp, fun j oj _ hl => (by rw [getD_replicate_false] at hl; cases hl), fun t _ ht => getD_in (by simpa using ht) (getD_replicate_false _ _)⟩
  have invk := headInv_pre k 0 _ inv0 hpre (by omega)
  refine wpIn_region_any hm ?_
  have e : l.toArray.size = (l.take k).length + ((n - k) + (l.toArray.size - n)) := by rw [hkl]; simp at *; omega
  have H : ∀ a1 w1, wpQuiet P l.toArray (fun w' => ∃ g : GrowOf w1, w' = grow w1 g) (fun a' => ∀ w', (∃ g : GrowOf w1, w' = grow w1 g) → wpListIn F m P l.toArray Q (l.drop n) a' w') ((l.take n).drop k) a1 →
      wpAnyIn F m P .any l.toArray Q ((n - k) + (l.toArray.size - n)) (preD k 0 (Array.replicate l.toArray.size false)) a1 w1 := fun a1 w1 h1 => by
    have H1 := headAll_lex (md := .any) (C := fun w' => ∃ g : GrowOf w1, w' = grow w1 g) (g := l.toArray.size - n) hsel hs hc hn ((l.take n).drop k) k _ a1 (fun j hj => by
      rw [htl] at hj
      rw [List.getElem?_drop, List.getElem?_take, if_pos (by omega)]
      simp) (by rw [htl]; omega) invk (by rw [htl]; exact hlex) h1
    have := headAllIn_any (m := m) (Q := Q) (g := l.toArray.size - n) hF (fun i o hi => noDefer_spec hd hi) (fun d a w' hw' hL => by
      have := wpAnyIn_of_seq (F := F) (m := m) (md := .any) (Q' := Q) (l.drop n) n d a w' (fun j => by simp [List.getElem?_drop]) (by rw [hdl]; exact hL.1) (hL.2 w' hw')
      rwa [hdl] at this) _ _ _ w1 ⟨⟨w1, Below.refl _ _⟩, rfl⟩ H1
    rw [htl] at this
    exact this
  have G := wpAnyIn_pre (F := F) (m := m) (md := .any) (Q := Q) (ops := l.toArray) (fuel := (n - k) + (l.toArray.size - n)) (l.take k) 0 (Array.replicate l.toArray.size false) a w.drew (fun j hj => by
    rw [hkl] at hj
    rw [List.getElem?_take, if_pos hj]
    simp) (by rw [hkl]; exact hpre) (wpListIn_preMono (fun a1 w1 h1 => by rw [hkl]; exact H a1 w1 h1) _ _ _ h)
  rw [← e] at G
  exact G
/-- The same, what follows behind a name. -/
theorem wpIn_region_pre_tail2 {id : Nat} {a : Act} {w : World} {l : List Oper} (k n : Nat) (hF : Lax F) (hm : P.follows .mixedOrders = true) (hB : preTailB l.toArray k n = true) (hd : noDefer l = true)
    (h : ∀ K : Act → World → Prop, (∀ a1 w1, wpQuiet P l.toArray (fun w' => ∃ g : GrowOf w1, w' = grow w1 g) (fun a' => ∀ w', (∃ g : GrowOf w1, w' = grow w1 g) → wpListIn F m P l.toArray Q (l.drop n) a' w') ((l.take n).drop k) a1 → K a1 w1) →
      wpListIn F m P l.toArray (preQ Q K) (l.take k) a w.drew) : (Code.region id l.toArray true).wpIn F m P Q a w :=
  wpIn_region_pre_tail k n hF hm hB hd (h _ fun _ _ h => h)
end
end Go.Proofs.YtadlaaddpobhbaaDoor
