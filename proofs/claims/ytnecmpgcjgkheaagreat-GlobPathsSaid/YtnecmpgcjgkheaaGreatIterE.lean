/-
  Loops over an iterator that may also turn one box of its own ahead of its first round. No program in sight.
-/
import Derived.Test.YtnecmpgcjgkheaaGreatIterQ
set_option linter.unusedSimpArgs false
set_option linter.unusedVariables false
namespace Go.Proofs.YtnecmpgcjgkheaaGreat
open Go.ChangeShapes Go.WideShapes Go.Deep Go.RowKit
/-- As GivesQ; ahead of its first round the iterator may store to the box db. -/
def GivesE (P : Program) {α : Type} (gf : Nat) (lb : Array Value) (encs : α → Array Value) (G : Nat → Prop) (N db : Nat) (xs : List α) (w : World) : Prop :=
  ∀ n, 1 ≤ n → ∀ (l : Nat) (J Jx : List α → (Nat → Prop) → World → Prop) (W : World), Below w.heap.size w W →
    (∀ s F A C, LullQ W.heap.size F A C → J s F A → J s F C) → (∀ s F A C, LullQ W.heap.size F A C → Jx s F A → Jx s F C) → (∀ s F A, J s F A → ∀ k, F k → k < A.heap.size) →
    (∀ F A v, (∀ k, F k → ¬ G k) → J [] F A → J [] F (A.setCell ⟨db, 0, none⟩ v)) →
    (∀ m pre x F W1, J pre F W1 → pre ++ [x] <+: xs → YieldAt Fence.wide m P l (encs x) W1 fun e W' => ∃ F', KpQ W.heap.size N F F' W1 W' ∧ ((e = .returned (.bool true) ∧ J (pre ++ [x]) F' W') ∨ (e = .returned (.bool false) ∧ Jx (pre ++ [x]) F' W'))) →
    ∀ F, (∀ k, F k → ¬ G k) → J [] F W → CallsIn Fence.wide n P gf (#[.func (.yield l) #[] #[]] ++ lb) W fun e W' => (∃ v, e = .returned v) ∧ ∃ F', J xs F' W' ∨ ∃ p, p <+: xs ∧ Jx p F' W'
section
variable {P : Program} {α : Type} {n : Nat}
/-- The caller's loop. -/
theorem wpIn_iterE {g : Operand} {ps : Array Tmp} {assign body : Code} {Q : Exit → Act → World → Prop} {a : Act} {w : World} (h2 : 2 ≤ n) {gf : Nat} {lb : Array Value} (hg : a.eval g = .func (.func gf) #[] lb) (eg : ∀ args w, (callFunc gf args).run P w = .ok (.enter gf args) w)
    {encs : α → Array Value} {G : Nat → Prop} {N db : Nat} {xs : List α} (hseq : GivesE P gf lb encs G N db xs w) (hdb : db < w.heap.size) (hN : N ≤ w.heap.size) (hps : ∀ x, (encs x).size = ps.size)
    (I : List α → (Nat → Prop) → World → Prop) (Ix : Code → List α → (Nat → Prop) → World → Prop) (hI : ∀ s F W W', LullQ w.heap.size F W W' → I s F W → I s F W') (hIx : ∀ c s F W W', LullQ w.heap.size F W W' → Ix c s F W → Ix c s F W')
    (hF : ∀ s F W, I s F W → ∀ k, F k → k < W.heap.size) (hIE : ∀ F W v, (∀ k, F k → ¬ G k) → I [] F W → I [] F (W.setCell ⟨db, 0, none⟩ v)) (F0 : Nat → Prop) (hG : ∀ k, F0 k → ¬ G k) (h0 : I [] F0 w)
    (Ax : α → Act → World → Prop) (hAx : ∀ x a' W W', Lull w.heap.size W W' → Ax x a' W → Ax x a' W')
    (hassign : ∀ (l : Nat) (pre : List α) (x : α) (F : Nat → Prop) (W : World) (K : Act → World → Prop), I pre F W → w.heap.size ≤ W.heap.size → (∀ a' W', KeepsFrom w.heap.size W W' → KcQ N F F W W' → I pre F W' → Ax x a' W' → K a' W') →
      assign.wpIn (Fence.wide.inRound l) (n - 1 - 1) P (Exit.then K (fun _ _ _ => False)) { tmps := (ps.zip (encs x)).foldl (fun t (p, v) => t.setIfInBounds p v) a.tmps, defers := [] } W)
    (hbody : ∀ (l : Nat) (pre : List α) (x : α) (F : Nat → Prop) (a' : Act) (W : World), w.heap.size ≤ W.heap.size → I pre F W → Ax x a' W → pre ++ [x] <+: xs → body.wpIn (Fence.wide.inRound l) (n - 1 - 1) P (ownPostQ w.heap.size N F I Ix (pre ++ [x]) W) a' W)
    (hdone : ∀ (D : Nat) (F : Nat → Prop) (W : World), w.heap.size ≤ D → I xs F W → W.heap[D]? = some (.deferred (some [])) → Q .normal { a with defers := { target := .collected D, args := #[] } :: a.defers } W)
    (hstop : ∀ (D : Nat) (c : Code) (pre : List α) (F : Nat → Prop) (W : World), w.heap.size ≤ D → pre <+: xs → Ix c pre F W → W.heap[D]? = some (.deferred (some [])) → c.wpIn Fence.wide n P Q { a with defers := { target := .collected D, args := #[] } :: a.defers } W) :
    (Code.rangeFunc g ps assign body).wpIn Fence.wide n P Q a w := by
  refine wpIn_rangeFunc fun fn hfn => ?_
  obtain ⟨d, hd⟩ : ∃ d, d = w.heap.size := ⟨_, rfl⟩
  obtain ⟨W1, hW1⟩ : ∃ W1, W1 = (w.alloc (.deferred (some []))).alloc (.loop (recOf fn a.tmps ps assign body d .ready none)) := ⟨_, rfl⟩
  have hR1 : Rec W1 d (recOf fn a.tmps ps assign body d .ready none) := by
    rw [hW1, hd]
    exact ⟨by have := heap_alloc_new (w.alloc (.deferred (some []))) (.loop (recOf fn a.tmps ps assign body w.heap.size .ready none)); rwa [World.size_alloc] at this, (heap_alloc_lt _ _ _ (by simp)).trans (heap_alloc_new w _)⟩
  have hs1 : W1.heap.size = d + 2 := by rw [hW1, hd]; simp
  have hB1 : Below w.heap.size w W1 := by rw [hW1]; exact below_alloc (below_alloc (Below.refl _ _) _) _
  have hI1 : I [] F0 W1 := by rw [hW1]; exact hI _ _ _ _ (Lull.of_grown (World.grownBy_alloc _ _ none) (fun r e => by cases e)).q (hI _ _ _ _ (Lull.of_grown (World.grownBy_alloc w _ none) (fun r e => by cases e)).q h0)
  have hrun : (Instr.enterLoop fn a.tmps ps assign body Fence.wide.round).run P w = .ok (d + 1, [{ target := .collected d, args := #[] }]) W1 := by
    rw [hW1, hd]; exact run_enterLoop_outer fn a.tmps ps assign body
  clear hW1
  rw [← hd] at hI hIx hAx hassign hbody hdone hstop hN hdb
  refine ⟨d + 1, [{ target := .collected d, args := #[] }], W1, { target := .fn (.func gf) lb, args := #[.func (.yield (d + 1)) #[] #[]] }, W1, gf, #[.func (.yield (d + 1)) #[] #[]] ++ lb, W1, hrun, ?_, ?_, ?_, fun _ => by omega, ?_⟩
  · simp only [resolve, hg]; simp [go_sem]
  · exact fun f' hf' => by simp [Target.leads] at hf'; subst hf'; trivial
  · simp [invoke, go_sem, eg]
  · refine (hseq (n - 1) (by omega) (d + 1) (fun pre F W => I pre F W ∧ Rec W d (recOf fn a.tmps ps assign body d .ready none)) (fun pre F W => ∃ c, Ix c pre F W ∧ Rec W d (recOf fn a.tmps ps assign body d .done (some c))) W1 hB1
      (fun s F A C hk hs => by
        rw [hs1] at hk
        exact ⟨hI s F A C (hk.mono (by omega) (fun _ q => q)) hs.1, hs.2.lull2 hk⟩)
      (fun s F A C hk ⟨c, hs⟩ => by
        rw [hs1] at hk
        exact ⟨c, hIx c s F A C (hk.mono (by omega) (fun _ q => q)) hs.1, hs.2.lull2 hk⟩) (fun s F A hs => hF s F A hs.1) (fun F A v hf hs => ⟨hIE F A v hf hs.1, hs.2.keeps (Keeps.setCell (F := fun k => k = db) A (a := ⟨db, 0, none⟩) rfl v) (fun e => by omega) (fun e => by omega)⟩) (fun m pre x F W hj hlen => ?_) F0 hG ⟨hI1, hR1⟩).mono fun e W2 hp => ?_
    · obtain ⟨hi, hr⟩ := hj
      rw [hs1]
      refine yieldAt_all (m := n - 1 - 1) ⟨fn, _, assign, body, run_yield (P := P) (args := encs x) hr.l (hps x), roundIn_of_wpIn hfn (hassign _ pre x F W _ hi (by have := hr.lt; omega) fun a' Wa k1 k2 hia hax => ?_)⟩
      have hra := hr.from k1 (Nat.le_refl _)
      have hrb := hra.put (recOf fn a.tmps ps assign body d .busy none)
      have kc := k2.put (r' := recOf fn a.tmps ps assign body d .busy none) hra hN
      have kr := keepsFrom_put (A := d + 2) (d := d) (r' := recOf fn a.tmps ps assign body d .busy none) (keepsFrom_up k1 (A' := d + 2) (by omega)) (by omega)
      have fin : ∀ {F' : Nat → Prop} {W3 : World} (r' : Loop), KeepsFrom d (Wa.putObj (d + 1) (.loop (recOf fn a.tmps ps assign body d .busy none))) W3 → KcQ N F F' (Wa.putObj (d + 1) (.loop (recOf fn a.tmps ps assign body d .busy none))) W3 → KpQ (d + 2) N F F' W (W3.putObj (d + 1) (.loop r')) := fun r' q1 q2 =>
        ⟨(kc.trans q2).put (hrb.from q1 (Nat.le_refl _)) hN, keepsFrom_put (A := d + 2) (d := d) (kr.trans (keepsFrom_up q1 (A' := d + 2) (by omega))) (by omega)⟩
      refine ⟨_, run_beginRound hra.l rfl, wpIn_mono (hbody _ pre x F a' _ (by have := hrb.lt; exact Nat.le_of_lt (Nat.lt_of_succ_lt this)) (hI _ _ _ _ (hra.lull _ (Nat.le_refl _)).q hia) (hAx _ _ _ _ (hra.lull _ (Nat.le_refl _)) hax) hlen) fun e a3 W3 hq => ?_⟩
      cases e with
      | normal =>
        obtain ⟨F', q1, q2, q3⟩ := hq
        have h3 := hrb.from q1 (Nat.le_refl _)
        exact ⟨_, _, run_endRound (P := P) none h3.l, F', fin _ q1 q2, .inl ⟨rfl, hI _ _ _ _ (h3.lull _ (Nat.le_refl _)).q q3, h3.put _⟩⟩
      | ret =>
        obtain ⟨F', q1, q2, q3⟩ := hq
        have h3 := hrb.from q1 (Nat.le_refl _)
        exact ⟨_, _, run_endRound (P := P) (some _) h3.l, F', fin _ q1 q2, .inr ⟨rfl, _, hIx _ _ _ _ _ (h3.lull _ (Nat.le_refl _)).q q3, h3.put _⟩⟩
      | exit id =>
        obtain ⟨F', q1, q2, q3⟩ := hq
        have h3 := hrb.from q1 (Nat.le_refl _)
        exact ⟨_, _, run_endRound (P := P) (some _) h3.l, F', fin _ q1 q2, .inr ⟨rfl, _, hIx _ _ _ _ _ (h3.lull _ (Nat.le_refl _)).q q3, h3.put _⟩⟩
      | goto t =>
        obtain ⟨F', q1, q2, q3⟩ := hq
        have h3 := hrb.from q1 (Nat.le_refl _)
        exact ⟨_, _, run_endRound (P := P) (some _) h3.l, F', fin _ q1 q2, .inr ⟨rfl, _, hIx _ _ _ _ _ (h3.lull _ (Nat.le_refl _)).q q3, h3.put _⟩⟩
      | panic c => exact hq.elim
      | outgrown => exact hq.elim
    · obtain ⟨⟨v, rfl⟩, F', hp⟩ := hp
      rcases hp with ⟨hi, hr⟩ | ⟨p, hp, c, hx, hr⟩
      · exact ⟨none, _, run_endLoop (P := P) hr.l (by simp [recOf]), hdone d F' _ (Nat.le_refl _) (hI _ _ _ _ (hr.lull _ (Nat.le_refl _)).q hi) (hr.put _).d⟩
      · exact ⟨some c, _, run_endLoop (P := P) hr.l (by simp [recOf]), hstop d c p F' _ (Nat.le_refl _) hp (hIx c _ _ _ _ (hr.lull _ (Nat.le_refl _)).q hx) (hr.put _).d⟩
end
end Go.Proofs.YtnecmpgcjgkheaaGreat
