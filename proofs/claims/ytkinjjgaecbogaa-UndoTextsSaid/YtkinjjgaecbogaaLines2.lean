/-
  The walks of layer 3 (lines): slices.Collect over any iterator of numbers. Conditions: at most 2^40 of them.
-/
import Derived.Test.YtkinjjgaecbogaaLines
import Derived.Test.YtkinjjgaecbogaaBox
namespace Go.Proofs.Ytkinjjgaecbogaa
open Go.ChangeShapes Go.WideShapes Go.Deep Go.RowKit Go.Shelf
attribute [local go_sem] Oper.semAt_some
set_option maxRecDepth 100000
/-- The cells of a number. -/
def intC (x : Int) : List Value := [.int .i64 x]
theorem intC_len {xs : List Int} : ∀ x ∈ xs, (intC x).length = 1 := fun _ _ => rfl
theorem intC_flat (xs : List Int) : (xs.flatMap intC).length = xs.length := by induction xs <;> simp_all [intC]
theorem intC_one {xs : List Int} : ∀ u ∈ xs.flatMap intC, u.oneCell' = true := by
  intro u hu
  simp [intC] at hu
  obtain ⟨a, _, rfl⟩ := hu
  rfl
theorem info_int : (Try.prog.info? 3).map (fun i => (i.zero, i.size, i.bytes)) = some (some (.int .i64 0), 1, 8) := by kernel_rfl
def CollectPost (xs : List Int) (w : World) (e : Ending) (w' : World) : Prop := ∃ v, e = .returned v ∧ Own w' w.heap.size 1 v xs.length (xs.flatMap intC) ∧ Below w.heap.size w w'
def CollI (w : World) (pre : List Int) (W : World) : Prop := ∃ v, BoxOwn W w.heap.size w.heap.size 1 v pre.length (pre.flatMap intC) ∧ (pre.length = 0 → v = .slice none 0 0) ∧ Below w.heap.size w W
set_option maxHeartbeats 1000000 in
theorem appendSeq_any (gf : Nat) (lb : Array Value) (G : Nat → Prop) (xs : List Int) (w : World) (hg : Gives Try.prog gf lb encI G xs w) (eg : ∀ args w, (callFunc gf args).run Try.prog w = .ok (.enter gf args) w)
    (hG : ∀ k, G k → k < w.heap.size) (hl : xs.length ≤ 1099511627776) :
    Calls Try.prog 96 #[.slice none 0 0, .func (.func gf) #[] lb] w (CollectPost xs w) := by
  obtain ⟨i0, hi0, hz00, hz01, hz02⟩ := info_parts info_int
  have HG := Lib.hid hG
  have HGV := Lib.hid hg
  clear hG hg
  refine (callsIn_wide (n := 9)).1 ?_; refine callsIn_of_wp_marks Try.func96 rfl trivial ?_ rfl; simp only [Try.ntmps96, List.size_toArray, List.length_cons, List.length_nil, Nat.reduceAdd, Nat.reduceSub, Array.replicate_succ, Array.replicate_zero, List.push_toArray, List.append_toArray, List.nil_append, List.cons_append]
  gi_wp2
  refine wpIn_iter (n := 9) (by omega) (gf := gf) (lb := lb) rfl eg (HGV.out.below (below_alloc (Below.refl _ _) _)) (fun k hk => by have := HG.out k hk; simp; omega) (fun _ => rfl) (CollI w) (fun _ _ _ => False)
    (fun s W W' hL ⟨v, h1, h2, h3⟩ => ⟨v, h1.lull hL, h2, hL.below h3 (by simp) (Nat.le_refl _)⟩) (fun _ _ _ _ _ h => h)
    ⟨.slice none 0 0, ⟨by simp, by go_simp, by simp [go_sem], Own.nil _ _ _, by simp [Value.ownBlock]⟩, fun _ => rfl, below_alloc (Below.refl _ _) _⟩
    (fun x a' _ => a' = { tmps := #[.slice none 0 0, .func (.func gf) #[] lb, .pointer (some ⟨w.heap.size, 0, none⟩), undef, .slice none 0 0, .int .i64 x, .func (.func gf) #[] lb, .int .i64 x, undef, undef, undef, undef, undef], defers := [] }) (fun _ _ _ _ _ h => h) ?assign ?body ?done ?stop
  case assign =>
    intro l pre x W K hi hs hK
    gi_wp2
    exact hK _ _ (KeepsFrom.refl _ _) (fun _ _ => rfl) hi rfl
  case body =>
    rintro l pre x a' W hs ⟨v, h1, h2, h3⟩ rfl hlt
    have hs' : w.heap.size + 1 ≤ W.heap.size := by simpa using hs
    have hc := h1.c
    have H1 := Lib.hid h1
    have H2 := Lib.hid h2
    have H3 := Lib.hid h3
    clear h1 h2 h3
    gi_wp2_with ((gi_at_builtin; refine wpListIn_append_src rfl (.tmp 8) (.tmp 10) _ rfl w.heap.size 3 i0 _ 1 8 Try.underlying129 hi0 hz00 hz01 hz02 rfl (by decide) _ pre.length (pre.flatMap intC) rfl (H1.out.own.below (by (repeat (first | exact Below.refl _ _ | assumption | with_reducible refine below_alloc ?_ _ | with_reducible refine below_grow ?_ _ | with_reducible refine below_drewN ?_ _ | with_reducible refine below_drew ?_ | with_reducible refine below_setCell ?_ (by first | (dsimp only; omega) | (simp; done) | (simp; omega)) _)))) _ 1 [.int .i64 x] rfl rfl (Src.one _ _ _ _) (by simp [Value.oneCell']) (by unfold maxLen; omega) (by omega) (by first | (simp; done) | omega | (simp; omega)) ?_; intro v1 w1 hown1 hg1 hat1 hty1; have HTY1 := Lib.hid hty1; clear hty1); obtain ⟨g1, o1, c1, rfl, q1, q2, q3, q4⟩ := hown1.form; obtain ⟨r1, r2, r3, r4, r5, r6⟩ := H1.out.round (A := w.heap.size + 1) (G := G) (by omega) H2.out H3.out (Nat.le_refl _) (Nat.le_refl _) (by omega) HG.out hown1 hg1 hat1; have R := Lib.hid (And.intro r1 (And.intro r2 (And.intro r3 r4))); clear hown1 hg1 hat1 r1 r2 r3 r4)
    exact ⟨by rw [World.size_alloc]; exact R.out.1, R.out.2.1, _, by simpa [intC] using R.out.2.2.1, fun h => by simp at h, R.out.2.2.2⟩
  case done =>
    rintro D W hD ⟨v, h1, h2, h3⟩ hK
    have hD' : w.heap.size + 1 ≤ D := by simpa using hD
    have hc := h1.c
    have H1 := Lib.hid h1
    have H3 := Lib.hid h3
    clear h1 h2 h3
    gi_wp2
    refine ⟨by simp, .inl ⟨_, _, rfl, run_takeDeferred hK, ?_⟩⟩
    have hL : Lull (w.heap.size + 1) W (W.putObj D (.deferred none)) := Lull.of_grown (grownBy_putObj' W D _) (fun r e => by cases e; exact ⟨hD', _, hK, rfl⟩)
    exact ⟨_, results_tmp rfl _ _ _, v, rfl, H1.out.own.lull hL, hL.below H3.out (by omega) (Nat.le_refl _)⟩
  case stop =>
    rintro D c pre W _ _ h _
    exact h.elim
theorem collect_any (gf : Nat) (lb : Array Value) (G : Nat → Prop) (xs : List Int) (w : World) (hg : Gives Try.prog gf lb encI G xs w) (eg : ∀ args w, (callFunc gf args).run Try.prog w = .ok (.enter gf args) w)
    (hG : ∀ k, G k → k < w.heap.size) (hl : xs.length ≤ 1099511627776) : Calls Try.prog 75 #[.func (.func gf) #[] lb] w (CollectPost xs w) := by
  have HC := Lib.hid (appendSeq_any gf lb G xs w hg eg hG hl)
  clear hg hG
  go_enter Try.func75, Try.ntmps75
  go_wp2_with (go_at_call 96; refine HC.out.mono ?_; rintro e w1 ⟨v, rfl, h1, h2⟩; have H1 := Lib.hid h1; clear h1)
  go_ret
  exact ⟨v, rfl, H1.out, h2⟩
end Go.Proofs.Ytkinjjgaecbogaa
