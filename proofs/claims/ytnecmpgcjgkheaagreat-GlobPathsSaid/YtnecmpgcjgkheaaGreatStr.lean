/-
  Slices of texts: slices.Clone, and whether two are the same. Conditions: at most 2^40 texts.
-/
import Derived.Test.YtnecmpgcjgkheaaGreatTailIn
import Derived.Test.YtnecmpgcjgkheaaGreatProg
import Derived.Test.YtnecmpgcjgkheaaGreatOwn
import Derived.Test.YtnecmpgcjgkheaaGreatIter
set_option linter.unusedSimpArgs false
set_option linter.unusedVariables false
namespace Go.Proofs.YtnecmpgcjgkheaaGreat
open Go.ChangeShapes Go.WideShapes Go.Deep Go.RowKit
/-- An iterator that tells xs, one by one, and writes the block b between two rounds, whatever a round does, if it but leaves the blocks G alone. -/
def GivesW (P : Program) {α : Type} (gf : Nat) (lb : Array Value) (encs : α → Array Value) (G : Nat → Prop) (b : Nat) (xs : List α) (w : World) : Prop :=
  ∀ n, 1 ≤ n → ∀ (l : Nat) (J Jx : List α → World → Prop) (W : World), Below w.heap.size w W → (∀ s A C, Keeps (fun k => k = b) A C → J s A → J s C) → (∀ s A C, Keeps (fun k => k = b) A C → Jx s A → Jx s C) →
    (∀ pre x W1, J pre W1 → pre ++ [x] <+: xs → YieldAt Fence.wide (n - 1) P l (encs x) W1 fun e W' => (e = .returned (.bool true) ∧ J (pre ++ [x]) W' ∧ KeepG G W1 W') ∨ (e = .returned (.bool false) ∧ Jx (pre ++ [x]) W')) →
    J [] W → CallsIn Fence.wide n P gf (#[.func (.yield l) #[] #[]] ++ lb) W fun e W' => (∃ v, e = .returned v) ∧ (J xs W' ∨ ∃ p, p <+: xs ∧ Jx p W')
theorem GivesW.below {P : Program} {α : Type} {gf : Nat} {lb : Array Value} {encs : α → Array Value} {G : Nat → Prop} {b : Nat} {xs : List α} {w w' : World} (h : GivesW P gf lb encs G b xs w) (hb : Below w.heap.size w w') : GivesW P gf lb encs G b xs w' :=
  fun n hn l J Jx W hW => h n hn l J Jx W (hb.trans (hW.mono hb.size))
/-- The loop's record, and the block of what its rounds defer. -/
structure Rec (W : World) (d : Nat) (r : Loop) : Prop where
  l : W.heap[d + 1]? = some (.loop r)
  d : W.heap[d]? = some (.deferred (some []))
/-- The record of a loop in a state. -/
def recOf (fn : FuncId) (tmps : Array Value) (ps : Array Tmp) (assign body : Code) (d : Nat) (s : LoopState) (pe : Option Code) : Loop := { state := s, pending := pe, fn, tmps, params := ps, assign, body, defers := d }
theorem Rec.lt {W : World} {d : Nat} {r : Loop} (h : Rec W d r) : d + 1 < W.heap.size := (Array.getElem?_eq_some_iff.1 h.l).1
theorem Rec.keeps {F : Nat → Prop} {W W' : World} {d : Nat} {r : Loop} (h : Rec W d r) (hk : Keeps F W W') (h1 : ¬ F (d + 1)) (h2 : ¬ F d) : Rec W' d r :=
  ⟨(hk.block _ h.lt h1).trans h.l, (hk.block _ (Nat.lt_of_succ_lt h.lt) h2).trans h.d⟩
theorem Rec.from {B : Nat} {W W' : World} {d : Nat} {r : Loop} (h : Rec W d r) (hk : KeepsFrom B W W') (hd : B ≤ d) : Rec W' d r := ⟨hk.same _ _ (Nat.le_succ_of_le hd) h.l rfl, hk.same _ _ hd h.d rfl⟩
theorem Rec.put {W : World} {d : Nat} {r : Loop} (h : Rec W d r) (r' : Loop) : Rec (W.putObj (d + 1) (.loop r')) d r' := ⟨World.putObj_heap_same h.lt, (World.putObj_heap_other (Nat.ne_of_lt (Nat.lt_succ_self d))).trans h.d⟩
theorem Rec.lull {B : Nat} {W : World} {d : Nat} {r : Loop} (h : Rec W d r) (r' : Loop) (hd : B ≤ d) : Lull B W (W.putObj (d + 1) (.loop r')) :=
  Lull.of_grown (grownBy_putObj' W _ _) (fun k e => by cases e; exact ⟨Nat.le_succ_of_le hd, _, h.l, rfl⟩)
theorem Rec.low {G : Nat → Prop} {W : World} {d : Nat} (r' : Loop) (hG : ∀ k, G k → k < d) : KeepG G W (W.putObj (d + 1) (.loop r')) := fun k hk => World.putObj_heap_other (fun e => by have := hG k hk; omega)
section
variable {P : Program} {α : Type} {n : Nat}
/-- The caller's loop. -/
theorem wpIn_iterW {g : Operand} {ps : Array Tmp} {assign body : Code} {Q : Exit → Act → World → Prop} {a : Act} {w : World} (h2 : 2 ≤ n) {gf : Nat} {lb : Array Value} (hg : a.eval g = .func (.func gf) #[] lb) (eg : ∀ args w, (callFunc gf args).run P w = .ok (.enter gf args) w)
    {encs : α → Array Value} {G : Nat → Prop} {b : Nat} {xs : List α} (hseq : GivesW P gf lb encs G b xs w) (hb : b < w.heap.size) (hG : ∀ k, G k → k < w.heap.size) (hps : ∀ x, (encs x).size = ps.size)
    (I : List α → World → Prop) (Ix : Code → List α → World → Prop) (hI : ∀ s W W', Lull w.heap.size W W' → I s W → I s W') (hIx : ∀ c s W W', Lull w.heap.size W W' → Ix c s W → Ix c s W')
    (hIW : ∀ s W W', Keeps (fun k => k = b) W W' → I s W → I s W') (hIxW : ∀ c s W W', Keeps (fun k => k = b) W W' → Ix c s W → Ix c s W') (h0 : I [] w)
    (Ax : α → Act → World → Prop) (hAx : ∀ x a' W W', Lull w.heap.size W W' → Ax x a' W → Ax x a' W')
    (hassign : ∀ (l : Nat) (pre : List α) (x : α) (W : World) (K : Act → World → Prop), I pre W → w.heap.size ≤ W.heap.size → (∀ a' W', KeepsFrom w.heap.size W W' → KeepG G W W' → I pre W' → Ax x a' W' → K a' W') →
      assign.wpIn (Fence.wide.inRound l) (n - 1 - 1) P (Exit.then K (fun _ _ _ => False)) { tmps := (ps.zip (encs x)).foldl (fun t (p, v) => t.setIfInBounds p v) a.tmps, defers := [] } W)
    (hbody : ∀ (l : Nat) (pre : List α) (x : α) (a' : Act) (W : World), w.heap.size ≤ W.heap.size → I pre W → Ax x a' W → pre ++ [x] <+: xs → body.wpIn (Fence.wide.inRound l) (n - 1 - 1) P (ownPostG w.heap.size (KeepG G) I Ix (pre ++ [x]) W) a' W)
    (hdone : ∀ (D : Nat) (W : World), w.heap.size ≤ D → I xs W → W.heap[D]? = some (.deferred (some [])) → Q .normal { a with defers := { target := .collected D, args := #[] } :: a.defers } W)
    (hstop : ∀ (D : Nat) (c : Code) (pre : List α) (W : World), w.heap.size ≤ D → pre <+: xs → Ix c pre W → W.heap[D]? = some (.deferred (some [])) → c.wpIn Fence.wide n P Q { a with defers := { target := .collected D, args := #[] } :: a.defers } W) :
    (Code.rangeFunc g ps assign body).wpIn Fence.wide n P Q a w := by
  refine wpIn_rangeFunc fun fn hfn => ?_
  obtain ⟨d, hd⟩ : ∃ d, d = w.heap.size := ⟨_, rfl⟩
  obtain ⟨W1, hW1⟩ : ∃ W1, W1 = (w.alloc (.deferred (some []))).alloc (.loop (recOf fn a.tmps ps assign body d .ready none)) := ⟨_, rfl⟩
  have hR1 : Rec W1 d (recOf fn a.tmps ps assign body d .ready none) := by
    rw [hW1, hd]
    exact ⟨by have := heap_alloc_new (w.alloc (.deferred (some []))) (.loop (recOf fn a.tmps ps assign body w.heap.size .ready none)); rwa [World.size_alloc] at this, (heap_alloc_lt _ _ _ (by simp)).trans (heap_alloc_new w _)⟩
  have hB1 : Below w.heap.size w W1 := by rw [hW1]; exact below_alloc (below_alloc (Below.refl _ _) _) _
  have hI1 : I [] W1 := by rw [hW1]; exact hI _ _ _ (Lull.of_grown (World.grownBy_alloc _ _ none) (fun r e => by cases e)) (hI _ _ _ (Lull.of_grown (World.grownBy_alloc w _ none) (fun r e => by cases e)) h0)
  have hrun : (Instr.enterLoop fn a.tmps ps assign body Fence.wide.round).run P w = .ok (d + 1, [{ target := .collected d, args := #[] }]) W1 := by
    rw [hW1, hd]; exact run_enterLoop_outer fn a.tmps ps assign body
  clear hW1
  have dl : ∀ k, G k → k < d := fun k hk => by rw [hd]; exact hG k hk
  have db : ¬ (d + 1 = b) := by omega
  have db' : ¬ (d = b) := by omega
  rw [← hd] at hI hIx hAx hassign hbody hdone hstop
  refine ⟨d + 1, [{ target := .collected d, args := #[] }], W1, { target := .fn (.func gf) lb, args := #[.func (.yield (d + 1)) #[] #[]] }, W1, gf, #[.func (.yield (d + 1)) #[] #[]] ++ lb, W1, hrun, ?_, ?_, ?_, fun _ => by omega, ?_⟩
  · simp only [resolve, hg]; simp [go_sem]
  · exact fun f' hf' => by simp [Target.leads] at hf'; subst hf'; trivial
  · simp [invoke, go_sem, eg]
  · refine (hseq (n - 1) (by omega) (d + 1) (fun pre W => I pre W ∧ Rec W d (recOf fn a.tmps ps assign body d .ready none)) (fun pre W => ∃ c, Ix c pre W ∧ Rec W d (recOf fn a.tmps ps assign body d .done (some c))) W1 hB1
      (fun s A C hk hs => ⟨hIW s A C hk hs.1, hs.2.keeps hk db db'⟩)
      (fun s A C hk ⟨c, hs⟩ => ⟨c, hIxW c s A C hk hs.1, hs.2.keeps hk db db'⟩) (fun pre x W hj hlen => ?_) ⟨hI1, hR1⟩).mono fun e W2 hp => ?_
    · obtain ⟨hi, hr⟩ := hj
      refine ⟨fn, _, assign, body, run_yield (P := P) (args := encs x) hr.l (hps x), roundIn_of_wpIn hfn (hassign _ pre x W _ hi (by have := hr.lt; omega) fun a' Wa k1 k2 hia hax => ?_)⟩
      have hra := hr.from k1 (Nat.le_refl _)
      have hrb := hra.put (recOf fn a.tmps ps assign body d .busy none)
      have kg : KeepG G W (Wa.putObj (d + 1) (.loop (recOf fn a.tmps ps assign body d .busy none))) := fun k hk => (Rec.low (W := Wa) (recOf fn a.tmps ps assign body d .busy none) dl k hk).trans (k2 k hk)
      refine ⟨_, run_beginRound hra.l rfl, wpIn_mono (hbody _ pre x a' _ (by have := hrb.lt; exact Nat.le_of_lt (Nat.lt_of_succ_lt this)) (hI _ _ _ (hra.lull _ (Nat.le_refl _)) hia) (hAx _ _ _ _ (hra.lull _ (Nat.le_refl _)) hax) hlen) fun e a3 W3 hq => ?_⟩
      cases e with
      | normal =>
        obtain ⟨q1, q2, q3⟩ := hq
        have h3 := hrb.from q1 (Nat.le_refl _)
        exact ⟨_, _, run_endRound (P := P) none h3.l, .inl ⟨rfl, ⟨hI _ _ _ (h3.lull _ (Nat.le_refl _)) q3, h3.put _⟩, fun k hk => (Rec.low (W := W3) _ dl k hk).trans ((q2 k hk).trans (kg k hk))⟩⟩
      | ret =>
        have h3 := hrb.from hq.1 (Nat.le_refl _)
        exact ⟨_, _, run_endRound (P := P) (some _) h3.l, .inr ⟨rfl, _, hIx _ _ _ _ (h3.lull _ (Nat.le_refl _)) hq.2, h3.put _⟩⟩
      | exit id =>
        have h3 := hrb.from hq.1 (Nat.le_refl _)
        exact ⟨_, _, run_endRound (P := P) (some _) h3.l, .inr ⟨rfl, _, hIx _ _ _ _ (h3.lull _ (Nat.le_refl _)) hq.2, h3.put _⟩⟩
      | goto t =>
        have h3 := hrb.from hq.1 (Nat.le_refl _)
        exact ⟨_, _, run_endRound (P := P) (some _) h3.l, .inr ⟨rfl, _, hIx _ _ _ _ (h3.lull _ (Nat.le_refl _)) hq.2, h3.put _⟩⟩
      | panic c => exact hq.elim
      | outgrown => exact hq.elim
    · obtain ⟨⟨v, rfl⟩, hp⟩ := hp
      rcases hp with ⟨hi, hr⟩ | ⟨p, hp, c, hx, hr⟩
      · exact ⟨none, _, run_endLoop (P := P) hr.l (by simp [recOf]), hdone d _ (Nat.le_refl _) (hI _ _ _ (hr.lull _ (Nat.le_refl _)) hi) (hr.put _).d⟩
      · exact ⟨some c, _, run_endLoop (P := P) hr.l (by simp [recOf]), hstop d c p _ (Nat.le_refl _) hp (hIx c _ _ _ (hr.lull _ (Nat.le_refl _)) hx) (hr.put _).d⟩
end
end Go.Proofs.YtnecmpgcjgkheaaGreat
namespace Go.Proofs.YtnecmpgcjgkheaaGreat
open Go.RowKit
/-- Where a list of operations ends well: K; else Q. -/
def preQ (Q : Exit → Act → World → Prop) (K : Act → World → Prop) : Exit → Act → World → Prop
  | .normal, a, w => K a w
  | .exit i, a, w => Q (.exit i) a w
  | .goto l, a, w => Q (.goto l) a w
  | .ret, a, w => Q .ret a w
  | .panic c, a, w => Q (.panic c) a w
  | .outgrown, a, w => Q .outgrown a w
@[go_sem] theorem preQ_normal {Q : Exit → Act → World → Prop} {K : Act → World → Prop} {a : Act} {w : World} : preQ Q K .normal a w = K a w := rfl
section
variable {F : Fence} {P : Program} {ops : Array Oper} {md : Region.Mode} {m : Nat} {Q : Exit → Act → World → Prop}
end
end Go.Proofs.YtnecmpgcjgkheaaGreat
namespace Go.Proofs.YtnecmpgcjgkheaaGreat
open Go.ChangeShapes Go.WideShapes Go.Deep Go.RowKit
section
variable {P : Program} {α : Type} {n : Nat}
end
end Go.Proofs.YtnecmpgcjgkheaaGreat
namespace Go.Proofs.YtnecmpgcjgkheaaGreat
open Go.ChangeShapes Go.WideShapes Go.Deep Go.RowKit
/-- The cells of a text. -/
def strC (s : List UInt8) : List Value := [.string (B s)]
theorem strC_len {xs : List (List UInt8)} : ∀ x ∈ xs, (strC x).length = 1 := fun _ _ => rfl
theorem strC_flat (xs : List (List UInt8)) : (xs.flatMap strC).length = xs.length := by induction xs <;> simp_all [strC]
theorem strC_one {xs : List (List UInt8)} : ∀ u ∈ xs.flatMap strC, u.oneCell' = true := by
  intro u hu
  simp [strC] at hu
  obtain ⟨a, _, rfl⟩ := hu
  rfl
theorem flat_get (ys : List (List UInt8)) (j : Nat) : (ys.flatMap strC)[j]? = (ys[j]?).map fun y => Value.string (B y) := by
  induction ys generalizing j with
  | nil => simp
  | cons y ys ih =>
    cases j with
    | zero => simp [strC]
    | succ j => simpa [strC] using ih j
theorem own_str {w : World} {b0 g off n c : Nat} {xs : List (List UInt8)} (h : Own w b0 1 (.slice (some ⟨g, off, none⟩) n c) n (xs.flatMap strC)) {i : Nat} {x : List UInt8} (hx : xs[i]? = some x) : w.cell? ⟨g, off + i, none⟩ = some (.string (B x)) ∧ g < w.heap.size := by
  have hi : i < xs.length := (List.getElem?_eq_some_iff.1 hx).1
  rcases h.2 with ⟨h0, e | ⟨g', off', e, hg⟩⟩ | ⟨g', off', c', e, g1, g2, g3, g4, g5, g6⟩
  · cases e
  · exact absurd h.1 (by rw [strC_flat, h0]; omega)
  · injection e with e1
    injection e1 with e1
    injection e1 with e1 e2
    subst e1 e2
    refine ⟨g6 _ _ ?_, g2⟩
    rw [flat_get, hx]
    rfl
theorem info_str : (Tryz.prog.info? 9).map (fun i => (i.zero, i.size, i.bytes)) = some (some (.string ByteArray.empty), 1, 16) := by kernel_rfl
end Go.Proofs.YtnecmpgcjgkheaaGreat
