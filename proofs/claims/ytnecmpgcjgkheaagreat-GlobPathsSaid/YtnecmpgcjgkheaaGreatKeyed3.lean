/-
  Operations of a drawn region, each by a law of its own: a slice built of nothing, of one element. No program in sight.
-/
import Derived.Test.YtnecmpgcjgkheaaGreatBase
import Derived.Deep.RegionHeld
import Derived.Test.YtnecmpgcjgkheaaGreatOwn
set_option linter.unusedSimpArgs false
set_option linter.unusedVariables false
namespace Go.Proofs.YtnecmpgcjgkheaaGreat
open Go.ChangeShapes Go.WideShapes Go.RowKit
section
variable {P : Program} {ops : Array Oper} {Q : Exit → Act → World → Prop} {md : Region.Mode} {S : World → Prop} {K : List Nat}
/-- None of K has come up. -/
def unl (K : List Nat) (listed : Array Bool) : Bool := K.all fun k => !listed.getD k false
theorem unl_spec {K : List Nat} {listed : Array Bool} : unl K listed = true ↔ ∀ k ∈ K, listed.getD k false = false := by simp [unl]
theorem unl_set {K : List Nat} {listed : Array Bool} {i : Nat} (h : unl K (listed.setIfInBounds i true) = true) : unl K listed = true := by
  rw [unl_spec] at *
  intro k hk
  have := h k hk
  cases hl : listed.getD k false with
  | false => rfl
  | true => rw [getD_set_true hl] at this; cases this
theorem unl_put {K : List Nat} {listed : Array Bool} {i : Nat} (h : unl K listed = true) (hi : i ∉ K) : unl K (listed.setIfInBounds i true) = true := by
  rw [unl_spec] at *
  intro k hk
  rw [getD_set_ne false (fun e => hi (by rw [e]; exact hk))]
  exact h k hk
/-- Whatever order is picked from here on; S holds behind every operation till one of K has come up. -/
def wpAnyK (P : Program) (md : Region.Mode) (ops : Array Oper) (Q : Exit → Act → World → Prop) (S : World → Prop) (K : List Nat) : Nat → Array Bool → Act → World → Prop
  | 0, listed, a, w => Region.ready md ops listed = [] ∧ Q .normal a w
  | fuel + 1, listed, a, w =>
    (Region.ready md ops listed = [] → Q .normal a w) ∧
    ∀ i ∈ Region.ready md ops listed, wpOp P ops Q i (fun a' w' => (unl K (listed.setIfInBounds i true) = true → S w') ∧ wpAnyK P md ops Q S K fuel (listed.setIfInBounds i true) a' w') a w
theorem wpAny_of_keyed : ∀ (fuel : Nat) (listed : Array Bool) (a : Act) (w : World), wpAnyK P md ops Q S K fuel listed a w → wpAny P md ops Q fuel listed a w
  | 0, _, _, _, h => h
  | fuel + 1, _, _, _, h => ⟨h.1, fun i hi => wpOp_mono (fun a' w' h' => wpAny_of_keyed fuel _ a' w' h'.2) (h.2 i hi)⟩
/-- The operations Bs all wait for number i, or for one another. -/
def waits (md : Region.Mode) (ops : Array Oper) (i : Nat) (Bs : List Nat) : Bool :=
  Bs.all fun j => match ops[j]? with
    | some oj => oj.after.any fun e => Region.binds md e && (e.on == i || Bs.contains e.on)
    | none => false
theorem wpAnyK_first {i : Nat} {oi : Oper} {v : Value} {T : World → Prop} {Bs : List Nat} (hi : ops[i]? = some oi) (hsel : ∀ (j : Nat) (o : Oper) cs b, ops[j]? = some o → o.op ≠ .select cs b)
    (hQ : ∀ c a w, Q (.panic c) (a.put oi.dst v) w → Q (.panic c) a w) (hiK : i ∉ K) (hiB : i ∉ Bs) (hBs : waits md ops i Bs = true) (hT : (∀ w, T w) ∨ ((∀ w, S w → T w) ∧ ∀ k ∈ K, k ∈ Bs)) :
    ∀ (fuel : Nat) (listed : Array Bool) (a : Act) (w : World),
      (∀ j oj, ops[j]? = some oj → j ≠ i → listed.getD j true = false → (∀ e ∈ oj.after, Region.binds md e = true → e.on ≠ i) → oi.apart ops oj = true) →
      i ∈ Region.ready md ops listed → unl Bs listed = true → YieldsIf P ops T oi v a → (unl K listed = true → S w) →
      wpAnyK P md ops Q S K fuel (listed.setIfInBounds i true) (a.put oi.dst v) w → wpAnyK P md ops Q S K (fuel + 1) listed a w := by
  intro fuel
  have hunl : ∀ (listed : Array Bool) (w' : World), unl Bs listed = true → (unl K listed = true → S w') → T w' := fun listed w' hB hS => by
    rcases hT with h | ⟨h, hK⟩
    · exact h w'
    · exact h w' (hS (unl_spec.2 fun k hk => unl_spec.1 hB k (hK k hk)))
  induction fuel with
  | zero =>
    intro listed a w _ hr hu hy hS H
    refine ⟨fun h => (by rw [h] at hr; cases hr), fun j hj => ?_⟩
    by_cases hji : j = i
    · subst hji
      exact hy.wpOp hi (hunl _ _ hu hS) ⟨fun h => hS (unl_set h), H⟩
    · have := ready_mono hj hji
      rw [H.1] at this
      cases this
  | succ fuel ih =>
    intro listed a w hfree hr hu hy hS H
    refine ⟨fun h => (by rw [h] at hr; cases hr), fun j hj => ?_⟩
    by_cases hji : j = i
    · subst hji
      exact hy.wpOp hi (hunl _ _ hu hS) ⟨fun h => hS (unl_set h), H⟩
    · have h1 := H.2 j (ready_mono hj hji)
      obtain ⟨hjun, oj, hoj, hall⟩ := mem_ready.1 hj
      have hiun : listed.getD i false = false := by
        have h0 := (mem_ready.1 hr).1
        rcases Nat.lt_or_ge i listed.size with h' | h'
        · simp [h'] at h0 ⊢; exact h0
        · simp [Array.getElem?_eq_none h']
      have hnot : ∀ e ∈ oj.after, Region.binds md e = true → e.on ≠ i := fun e he hb heq => by
        have h1 := hall e he hb
        rw [heq, hiun] at h1
        cases h1
      have hjB : j ∉ Bs := fun hjb => by
        have h2 := List.all_eq_true.1 hBs j hjb
        simp only [hoj] at h2
        obtain ⟨e, he, hb⟩ := Array.any_eq_true'.1 h2
        simp only [Bool.and_eq_true, Bool.or_eq_true, beq_iff_eq, List.contains_iff_mem] at hb
        have h3 := hall e he hb.1
        rcases hb.2 with h4 | h4
        · exact hnot e he hb.1 h4
        · rw [unl_spec.1 hu _ h4] at h3; cases h3
      have h2 := wpOp_putIf hoj (hfree j oj hoj hji hjun hnot) (fun cs b => hsel i oi cs b hi) (fun cs b => hsel j oj cs b hoj) hQ hy h1
      have hfree' : ∀ k ok, ops[k]? = some ok → k ≠ i → (listed.setIfInBounds j true).getD k true = false →
          (∀ e ∈ ok.after, Region.binds md e = true → e.on ≠ i) → oi.apart ops ok = true := fun k ok hk hki hun hno => by
        refine hfree k ok hk hki ?_ hno
        by_cases hjk : j = k
        · subst hjk; exact hjun
        · rw [getD_set_ne true hjk] at hun; exact hun
      refine wpOp_mono (fun a' w' h3 => ?_) h2
      have hS' : unl K (listed.setIfInBounds j true) = true → S w' := fun h => h3.2.1 (by
        rw [Array.setIfInBounds_comm _ _ (Ne.symm hji)]
        exact unl_put h hiK)
      refine ⟨hS', ih (listed.setIfInBounds j true) a' w' hfree' (ready_mono hr (Ne.symm hji)) (unl_put hu hjB) h3.1 hS' ?_⟩
      rw [Array.setIfInBounds_comm _ _ hji]
      exact h3.2.2
/-- Take number i first: it yields v in every world. -/
theorem wpAnyK_take {i : Nat} {oi : Oper} {v : Value} {fuel : Nat} {listed : Array Bool} {a : Act} {w : World} (hi : ops[i]? = some oi)
    (hs : Region.noSelect ops = true) (hf : Region.free md ops listed i = true) (hr : (Region.ready md ops listed).contains i = true) (hiK : K.contains i = false)
    (hQ : ∀ c a w, Q (.panic c) (a.put oi.dst v) w → Q (.panic c) a w) (hy : YieldsIf P ops (fun _ => True) oi v a) (hS : unl K listed = true → S w)
    (h : wpAnyK P md ops Q S K fuel (listed.setIfInBounds i true) (a.put oi.dst v) w) : wpAnyK P md ops Q S K (fuel + 1) listed a w :=
  wpAnyK_first (T := fun _ => True) (Bs := []) hi (Region.noSelect_spec hs) hQ (by simpa using hiK) (by simp) rfl (.inl fun _ => trivial) fuel listed a w (Region.free_spec hi hf) (by simpa using hr) rfl hy hS h
/-- Take the load number i first: it yields v in every world that meets S, and K is among Bs, all of which wait for it. -/
theorem wpAnyK_load {i : Nat} (Bs : List Nat) {oi : Oper} {v : Value} {fuel : Nat} {listed : Array Bool} {a : Act} {w : World} (hi : ops[i]? = some oi)
    (hs : Region.noSelect ops = true) (hf : Region.free md ops listed i = true) (hr : (Region.ready md ops listed).contains i = true) (hB : (waits md ops i Bs && !Bs.contains i && K.all fun k => Bs.contains k) = true) (hu : unl Bs listed = true)
    (hQ : ∀ c a w, Q (.panic c) (a.put oi.dst v) w → Q (.panic c) a w) (hy : YieldsIf P ops S oi v a) (hS : unl K listed = true → S w)
    (h : wpAnyK P md ops Q S K fuel (listed.setIfInBounds i true) (a.put oi.dst v) w) : wpAnyK P md ops Q S K (fuel + 1) listed a w := by
  simp only [Bool.and_eq_true, Bool.not_eq_true', List.all_eq_true] at hB
  have hiB : i ∉ Bs := by simpa using hB.1.2
  have hK : ∀ k ∈ K, k ∈ Bs := fun k hk => by simpa using hB.2 k hk
  exact wpAnyK_first (T := S) (Bs := Bs) hi (Region.noSelect_spec hs) hQ (fun hk => hiB (hK i hk)) hiB hB.1.1 (.inr ⟨fun _ h => h, hK⟩) fuel listed a w (Region.free_spec hi hf) (by simpa using hr) hu hy hS h
/-- Each of the operations rs comes up next. -/
def AllReadyK (P : Program) (md : Region.Mode) (ops : Array Oper) (Q : Exit → Act → World → Prop) (S : World → Prop) (K : List Nat) (fuel : Nat) (listed : Array Bool) (a : Act) (w : World) (rs : List Nat) : Prop :=
  ∀ i ∈ rs, wpOp P ops Q i (fun a' w' => (unl K (listed.setIfInBounds i true) = true → S w') ∧ wpAnyK P md ops Q S K fuel (listed.setIfInBounds i true) a' w') a w
theorem AllReadyK.nil {fuel : Nat} {listed : Array Bool} {a : Act} {w : World} : AllReadyK P md ops Q S K fuel listed a w [] := fun _ h => by cases h
theorem AllReadyK.cons {fuel : Nat} {listed : Array Bool} {a : Act} {w : World} {i : Nat} {o : Oper} {tl : List Oper} {rs : List Nat} (ho : ops.toList.drop i = o :: tl)
    (h : ∀ K' : Act → World → Prop, Shut (∀ a w, (unl K (listed.setIfInBounds i true) = true → S w) → wpAnyK P md ops Q S K fuel (listed.setIfInBounds i true) a w → K' a w) → if Region.wanted o (yielded ops a.tmps) = true then Oper.wp P o a w K' Q else K' (a.put o.dst undef) w)
    (hs : AllReadyK P md ops Q S K fuel listed a w rs) : AllReadyK P md ops Q S K fuel listed a w (i :: rs) := fun j hj => by
  rcases List.mem_cons.1 hj with rfl | hj
  · have ho' : ops[j]? = some o := by
      rw [← Array.getElem?_toList, ← List.head?_drop, ho]; rfl
    exact wpOp_step ho' (fun K' hK => h K' (fun a w hS hW => hK a w ⟨hS, hW⟩))
  · exact hs j hj
theorem wpAnyK_ready {rs : List Nat} {fuel : Nat} {listed : Array Bool} {a : Act} {w : World} (hr : Region.ready md ops listed = rs) (hne : rs ≠ [])
    (h : AllReadyK P md ops Q S K fuel listed a w rs) : wpAnyK P md ops Q S K (fuel + 1) listed a w := ⟨fun h0 => absurd (hr ▸ h0) hne, hr ▸ h⟩
theorem wpAnyK_done {listed : Array Bool} {a : Act} {w : World} (hr : Region.ready md ops listed = []) (h : Q .normal a w) :
    ∀ fuel, wpAnyK P md ops Q S K fuel listed a w
  | 0 => ⟨hr, h⟩
  | _ + 1 => ⟨fun _ => h, by rw [hr]; simp⟩
theorem wp_region_keyed (S : World → Prop) (K : List Nat) {id : Nat} {a : Act} {w : World} (hm : P.follows .mixedOrders = true) (h : wpAnyK P .any ops Q S K ops.size (Array.replicate ops.size false) a w.drew) : (Code.region id ops true).wp P Q a w :=
  wp_region_any hm (wpAny_of_keyed _ _ _ _ h)
end
end Go.Proofs.YtnecmpgcjgkheaaGreat
namespace Go.Proofs.YtnecmpgcjgkheaaGreat
open Go.ChangeShapes Go.WideShapes Go.RowKit
section
variable {P : Program} {ops : Array Oper} {Q : Exit → Act → World → Prop} {md : Region.Mode} {S : World → Prop} {K : List Nat}
theorem wpAnyK_take2 {i : Nat} (d : Option Nat) {oi : Oper} {v : Value} {fuel : Nat} {listed : Array Bool} {a : Act} {w : World} (hi : ops[i]? = some oi) (hd : oi.dst = d)
    (hs : Region.noSelect ops = true) (hf : Region.free md ops listed i = true) (hr : (Region.ready md ops listed).contains i = true) (hiK : K.contains i = false)
    (hQ : ∀ c a w, Q (.panic c) (a.put oi.dst v) w → Q (.panic c) a w) (hy : YieldsIf P ops (fun _ => True) oi v a) (hS : unl K listed = true → S w)
    (h : wpAnyK P md ops Q S K fuel (listed.setIfInBounds i true) (a.put d v) w) : wpAnyK P md ops Q S K (fuel + 1) listed a w := by
  subst hd
  exact wpAnyK_take hi hs hf hr hiK hQ hy hS h
theorem wpAnyK_load2 {i : Nat} (Bs : List Nat) (d : Option Nat) {oi : Oper} {v : Value} {fuel : Nat} {listed : Array Bool} {a : Act} {w : World} (hi : ops[i]? = some oi) (hd : oi.dst = d)
    (hs : Region.noSelect ops = true) (hf : Region.free md ops listed i = true) (hr : (Region.ready md ops listed).contains i = true) (hB : (waits md ops i Bs && !Bs.contains i && K.all fun k => Bs.contains k) = true) (hu : unl Bs listed = true)
    (hQ : ∀ c a w, Q (.panic c) (a.put oi.dst v) w → Q (.panic c) a w) (hy : YieldsIf P ops S oi v a) (hS : unl K listed = true → S w)
    (h : wpAnyK P md ops Q S K fuel (listed.setIfInBounds i true) (a.put d v) w) : wpAnyK P md ops Q S K (fuel + 1) listed a w := by
  subst hd
  exact wpAnyK_load Bs hi hs hf hr hB hu hQ hy hS h
end
end Go.Proofs.YtnecmpgcjgkheaaGreat
namespace Go.Proofs.YtnecmpgcjgkheaaGreat
open Go.ChangeShapes Go.WideShapes Go.RowKit
section
variable {P : Program} {o : Oper} {a : Act} {w w' : World} {K : Act → World → Prop} {Q : Exit → Act → World → Prop} {E : Prop}
end
end Go.Proofs.YtnecmpgcjgkheaaGreat
