/-
  The walks of layer 16 (pattern): the atoms of a pattern, collected. Conditions: texts of at most 2^30 bytes; the library's variable MaxLen holds some number.
-/
import Derived.Test.YteojepadhonbiaaPat15
namespace Go.Proofs.Yteojepadhonbiaa.Pat
open Go.ChangeShapes Go.WideShapes Go.Deep Go.RowKit Go.Shelf
attribute [local go_sem] Oper.semAt_some
set_option maxRecDepth 100000
theorem atC_flat (xs : List At) : (xs.flatMap atC).length = xs.length * 6 := by
  induction xs with
  | nil => rfl
  | cons a r ih => simp only [List.flatMap_cons, List.length_append, ih, List.length_cons]; simp [atC]; omega
theorem atC_one {xs : List At} : ∀ u ∈ xs.flatMap atC, u.oneCell' = true := by
  intro u hu
  simp only [List.mem_flatMap] at hu
  obtain ⟨a, _, hu⟩ := hu
  simp [atC] at hu
  rcases hu with rfl | rfl | rfl | rfl | rfl | rfl <;> rfl
theorem info_atom : (Try.prog.info? 57).map (fun i => (i.zero, i.size, i.bytes)) = some (some (.agg #[.int .i64 0, .int .u8 0, .int .u64 0, .int .u64 0, .int .u64 0, .int .u64 0]), 6, 48) := by kernel_rfl
def CollP (xs : List At) (w : World) (e : Ending) (w' : World) : Prop := ∃ v, e = .returned v ∧ Own w' w.heap.size 6 v xs.length (xs.flatMap atC) ∧ Below w.heap.size w w'
def CollA (w : World) (pre : List At) (W : World) : Prop := ∃ v, BoxOwn W w.heap.size w.heap.size 6 v pre.length (pre.flatMap atC) ∧ (pre.length = 0 → v = .slice none 0 0) ∧ Below w.heap.size w W
set_option maxHeartbeats 1600000 in
theorem appendSeq_a (gf : Nat) (lb : Array Value) (G : Nat → Prop) (xs : List At) (w : World) (hg : Gives Try.prog gf lb encA G xs w) (eg : ∀ args w, (callFunc gf args).run Try.prog w = .ok (.enter gf args) w)
    (hG : ∀ k, G k → k < w.heap.size) (hl : xs.length ≤ 1073741824) :
    Calls Try.prog 99 #[.slice none 0 0, .func (.func gf) #[] lb] w (CollP xs w) := by
  obtain ⟨i6, hi6, hz60, hz61, hz62⟩ := info_parts info_atom
  have HG := Lib.hid hG
  have HGV := Lib.hid hg
  clear hG hg
  refine (callsIn_wide (n := 9)).1 ?_; refine callsIn_of_wp_marks Try.func99 rfl trivial ?_ rfl; simp only [Try.ntmps99, List.size_toArray, List.length_cons, List.length_nil, Nat.reduceAdd, Nat.reduceSub, Array.replicate_succ, Array.replicate_zero, List.push_toArray, List.append_toArray, List.nil_append, List.cons_append]
  gi_wp2
  refine wpIn_iter (n := 9) (by omega) (gf := gf) (lb := lb) rfl eg (HGV.out.below (below_alloc (Below.refl _ _) _)) (fun k hk => by have := HG.out k hk; simp; omega) (fun _ => rfl) (CollA w) (fun _ _ _ => False)
    (fun s W W' hL ⟨v, h1, h2, h3⟩ => ⟨v, h1.lull hL, h2, hL.below h3 (by simp) (Nat.le_refl _)⟩) (fun _ _ _ _ _ h => h)
    ⟨.slice none 0 0, ⟨by simp, by go_simp, by simp [go_sem], Own.nil _ _ _, by simp [Value.ownBlock]⟩, fun _ => rfl, below_alloc (Below.refl _ _) _⟩
    (fun x a' W' => ∃ ub, a' = { tmps := #[.slice none 0 0, .func (.func gf) #[] lb, .pointer (some ⟨w.heap.size, 0, none⟩), undef, .slice none 0 0, .pointer (some ⟨ub, 0, none⟩), .func (.func gf) #[] lb, atV x, undef, undef, undef, undef, undef], defers := [] } ∧ BoxN W' ub (atC x))
    (fun x a' W W' hL ⟨ub, e, h⟩ => ⟨ub, e, h.block (hL.block (h.c 0 _ rfl)) hL.size⟩) ?assign ?body ?done ?stop
  case assign =>
    intro l pre x W K hi hs hK
    have hK := hK { tmps := #[.slice none 0 0, .func (.func gf) #[] lb, .pointer (some ⟨w.heap.size, 0, none⟩), undef, .slice none 0 0, .pointer (some ⟨W.heap.size, 0, none⟩), .func (.func gf) #[] lb, atV x, undef, undef, undef, undef, undef], defers := [] } _
      (KeepsFrom.allocN _ W (.cells (atC x).toArray 57)) (fun k hk => heap_alloc_lt _ _ _ (by have := HG.out k hk; simp at hs; omega))
      (by obtain ⟨v, h1, h2, h3⟩ := hi; exact ⟨v, h1.below (below_alloc (Below.refl _ _) _), h2, below_alloc h3 _⟩) ⟨_, rfl, BoxN.new W _ _⟩
    unfold encA atV atC at *
    have HK := Lib.hid hK
    clear hK
    gi_wp2
    exact HK.out
  case body =>
    rintro l pre x a' W hs ⟨v, h1, h2, h3⟩ ⟨ub, rfl, hB⟩ hlt
    have hs' : w.heap.size + 1 ≤ W.heap.size := by simpa using hs
    have hc := h1.c
    have hf := h1.f
    have b0' := hB.c 0 _ rfl
    have b1' := hB.c 1 _ rfl
    have b2' := hB.c 2 _ rfl
    have b3' := hB.c 3 _ rfl
    have b4' := hB.c 4 _ rfl
    have b5' := hB.c 5 _ rfl
    have H1 := Lib.hid h1
    have H2 := Lib.hid h2
    have H3 := Lib.hid h3
    clear h1 h2 h3 hB
    unfold encA atV at *
    gi_wp2_with ((gi_at_builtin; refine wpListIn_append_src rfl (.tmp 8) (.tmp 10) _ rfl w.heap.size 57 i6 _ 6 48 Try.underlying52 hi6 hz60 hz61 hz62 rfl (by decide) _ pre.length (pre.flatMap atC) rfl (H1.out.own.below (by (repeat (first | exact Below.refl _ _ | assumption | with_reducible refine below_alloc ?_ _ | with_reducible refine below_grow ?_ _ | with_reducible refine below_drewN ?_ _ | with_reducible refine below_drew ?_ | with_reducible refine below_setCell ?_ (by first | (dsimp only; omega) | (simp; done) | (simp; omega)) _)))) _ 1 (atC x) rfl rfl (Src.one _ _ _ _) (by simp [atC, Value.oneCell']) (by unfold maxLen; omega) (by omega) (by first | (simp; done) | omega | (simp; omega)) ?_; intro v1 w1 hown1 hg1 hat1 hty1; have HTY1 := Lib.hid hty1; clear hty1); obtain ⟨g1, o1, c1, rfl, q1, q2, q3, q4⟩ := hown1.form; obtain ⟨r1, r2, r3, r4, r5, r6⟩ := H1.out.round (A := w.heap.size + 1) (G := G) (by omega) H2.out H3.out (Nat.le_refl _) (Nat.le_refl _) (by omega) HG.out hown1 hg1 hat1; have R := Lib.hid (And.intro r1 (And.intro r2 (And.intro r3 r4))); clear hown1 hg1 hat1 r1 r2 r3 r4)
    refine ⟨by rw [World.size_alloc]; exact R.out.1, R.out.2.1, _, by simpa using R.out.2.2.1, fun h => by simp at h, R.out.2.2.2⟩
  case done =>
    rintro D W hD ⟨v, h1, h2, h3⟩ hK
    have hD' : w.heap.size + 1 ≤ D := by simpa using hD
    have hc := h1.c
    have H1 := Lib.hid h1
    have H3 := Lib.hid h3
    clear h1 h2 h3
    gi_wp2
    refine ⟨by simp, .inl ⟨_, _, rfl, run_takeDeferred hK, ?_⟩⟩
    have hL : Lull (w.heap.size + 1) W (W.putObj D (.deferred none)) := Lull.of_grown (grownBy_putObj' W D _) (fun r e => by cases e; exact ⟨hD', _, hK, rfl⟩)
    exact ⟨_, results_tmp rfl _ _ _, v, rfl, H1.out.own.lull hL, hL.below H3.out (by omega) (Nat.le_refl _)⟩
  case stop =>
    rintro D c pre W _ _ h _
    exact h.elim
theorem collect_a (gf : Nat) (lb : Array Value) (G : Nat → Prop) (xs : List At) (w : World) (hg : Gives Try.prog gf lb encA G xs w) (eg : ∀ args w, (callFunc gf args).run Try.prog w = .ok (.enter gf args) w)
    (hG : ∀ k, G k → k < w.heap.size) (hl : xs.length ≤ 1073741824) : Calls Try.prog 68 #[.func (.func gf) #[] lb] w (CollP xs w) := by
  have HC := Lib.hid (appendSeq_a gf lb G xs w hg eg hG hl)
  clear hg hG
  go_enter Try.func68, Try.ntmps68
  go_wp2_with (go_at_call 99; refine HC.out.mono ?_; rintro e w1 ⟨v, rfl, h1, h2⟩; have H1 := Lib.hid h1; clear h1)
  go_ret
  exact ⟨v, rfl, H1.out, h2⟩
def ParseP (p : List UInt8) (w : World) (e : Ending) (w' : World) : Prop := ∃ v, e = .returned v ∧ Sl w' atC 6 v (parse p) ∧ Below w.heap.size w w'
set_option maxHeartbeats 1600000 in
theorem parse_any (p : List UInt8) (w : World) (hm : MaxL w) (hp : p.length ≤ 1073741824) : Calls Try.prog 33 #[.string (B p)] w (ParseP p w) := by
  have hg := atoms_gives p w hm hp
  have hlt := hm.lt
  have hpl := parse_len p
  have HC := Lib.hid (collect_a 100 _ _ (parse p) _ hg (enters_of Try.func100 (by kernel_rfl) rfl) (fun k hk => by rcases hk with rfl | rfl <;> simp; try omega) (by omega))
  clear hg hm
  go_enter Try.func33, Try.ntmps33
  go_wp2_with (first | (go_at_call 69; refine (atoms_any p w).mono ?_; rintro e w1 ⟨rfl, rfl⟩) | (go_at_call 68; refine HC.out.mono ?_; rintro e w2 ⟨v, rfl, ho, hb⟩; have HO := Lib.hid ho; have HB := Lib.hid hb; clear ho hb))
  go_ret
  exact ⟨v, rfl, HO.out.sl atC_len rfl, below_then (below_alloc (Below.refl _ _) _) HB.out⟩
end Go.Proofs.Yteojepadhonbiaa.Pat
