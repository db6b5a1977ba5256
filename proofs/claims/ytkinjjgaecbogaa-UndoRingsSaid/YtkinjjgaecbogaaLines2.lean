/-
  The walks of layer 3 (lines): slices.Collect over any iterator of numbers. Conditions: at most 2^40 of them.
-/
import Derived.Test.YtkinjjgaecbogaaLines
namespace Go.Proofs.Ytkinjjgaecbogaa
open Go.ChangeShapes Go.WideShapes Go.Deep Go.RowKit Go.Shelf
attribute [local go_sem] Oper.semAt_some
set_option maxRecDepth 100000
/-- The cells of a number. -/
def intC (x : Int) : List Value := [.int .i64 x]
theorem intC_len {xs : List Int} : ∀ x ∈ xs, (intC x).length = 1 := fun _ _ => rfl
theorem intC_flat (xs : List Int) : (xs.flatMap intC).length = xs.length := by induction xs <;> simp_all [intC]
theorem intC_one {xs : List Int} : ∀ u ∈ xs.flatMap intC, u.oneCell' = true := by
  intro u hu
  simp [intC] at hu
  obtain ⟨a, _, rfl⟩ := hu
  rfl
theorem info_int : (Try.prog.info? 3).map (fun i => (i.zero, i.size, i.bytes)) = some (some (.int .i64 0), 1, 8) := by kernel_rfl
/-- A box of the call's own, and in it an own slice. -/
structure BoxOwn (w : World) (b0 B sz : Nat) (v : Value) (n : Nat) (xs : List Value) : Prop where
  lt : B < w.heap.size
  c : w.cell? ⟨B, 0, none⟩ = some v
  f : w.frozen? ⟨B, 0, none⟩ = false
  own : Own w b0 sz v n xs
  ne : v.ownBlock ≠ some B
theorem BoxOwn.lull {A : Nat} {w w' : World} {b0 B sz n : Nat} {v : Value} {xs : List Value} (h : BoxOwn w b0 B sz v n xs) (hk : Lull A w w') : BoxOwn w' b0 B sz v n xs :=
  ⟨Nat.lt_of_lt_of_le h.lt hk.size, hk.cell h.c, (hk.frozen h.c).trans h.f, h.own.lull hk, h.ne⟩
theorem BoxOwn.below {w w' : World} {b0 B sz n : Nat} {v : Value} {xs : List Value} (h : BoxOwn w b0 B sz v n xs) (hb : Below w.heap.size w w') : BoxOwn w' b0 B sz v n xs :=
  ⟨Nat.lt_of_lt_of_le h.lt hb.size, (hb.cell (p := ⟨B, 0, none⟩) h.lt).trans h.c, (hb.frozen (p := ⟨B, 0, none⟩) h.lt).trans h.f, h.own.below hb, h.ne⟩
/-- What was appended is stored. -/
theorem BoxOwn.store {w w1 : World} {b0 B sz n m : Nat} {v v' : Value} {xs ys : List Value} (h : BoxOwn w b0 B sz v n xs) (ho : Own w1 b0 sz v' m ys) (hk : Keeps (fun k => v.ownBlock = some k ∧ b0 ≤ k) w w1)
    (hat : v'.ownBlock = v.ownBlock ∨ ∀ k, v'.ownBlock = some k → w.heap.size ≤ k) : BoxOwn (w1.setCell ⟨B, 0, none⟩ v') b0 B sz v' m ys ∧ w1.cell? ⟨B, 0, none⟩ = some v ∧ w1.frozen? ⟨B, 0, none⟩ = false ∧ Keeps (fun k => k = B ∨ (v.ownBlock = some k ∧ b0 ≤ k)) w (w1.setCell ⟨B, 0, none⟩ v') := by
  have hh : w1.heap[B]? = w.heap[B]? := hk.block B h.lt (fun e => h.ne e.1)
  have hc : w1.cell? ⟨B, 0, none⟩ = some v := (World.cell?_of_block (w := w) hh).trans h.c
  have hf : w1.frozen? ⟨B, 0, none⟩ = false := (World.frozen?_of_block (w := w) hh).trans h.f
  have hne : v'.ownBlock ≠ some B := by
    rcases hat with e | e
    · rw [e]; exact h.ne
    · intro e2
      have := e B e2
      have := h.lt
      omega
  have hs : Keeps (fun k => k = B) w1 (w1.setCell ⟨B, 0, none⟩ v') := Keeps.setCell (F := fun k => k = B) w1 (a := ⟨B, 0, none⟩) rfl _
  refine ⟨⟨Nat.lt_of_lt_of_le (Nat.lt_of_lt_of_le h.lt hk.size) hs.size, World.cell?_setCell_same' _ _ _ (by rw [hc]; rfl), by rw [World.frozen?_setCell]; exact hf, ho.keeps hs (fun k hk _ e => hne (by rw [← e]; exact hk)), hne⟩, hc, hf, ?_⟩
  exact (hk.mono fun k _ e => .inr e).trans (hs.mono fun k _ e => .inl e)
/-- What a round of a loop over an iterator owes, where it appends to the slice in its box. -/
theorem BoxOwn.round {w W w1 : World} {o : Obj} {A b0 B sz n m : Nat} {v v' : Value} {xs ys : List Value} {G : Nat → Prop} (h : BoxOwn W b0 B sz v n xs) (hsz : 0 < sz) (hv : n = 0 → v = .slice none 0 0) (hb : Below b0 w W) (hw : b0 ≤ w.heap.size) (hB : b0 ≤ B) (hA : B < A) (hG : ∀ k, G k → k < b0)
    (ho : Own w1 b0 sz v' m ys) (hk : Keeps (fun k => v.ownBlock = some k ∧ b0 ≤ k) (W.alloc o) w1) (hat : v'.ownBlock = v.ownBlock ∨ ∀ k, v'.ownBlock = some k → (W.alloc o).heap.size ≤ k) :
    KeepsFrom A W (w1.setCell ⟨B, 0, none⟩ v') ∧ KeepG G W (w1.setCell ⟨B, 0, none⟩ v') ∧ BoxOwn (w1.setCell ⟨B, 0, none⟩ v') b0 B sz v' m ys ∧ Below b0 w (w1.setCell ⟨B, 0, none⟩ v') ∧ w1.cell? ⟨B, 0, none⟩ = some v ∧ w1.frozen? ⟨B, 0, none⟩ = false := by
  have hal : Below W.heap.size W (W.alloc o) := below_alloc (Below.refl _ _) o
  obtain ⟨h1, h2, h3, h4⟩ := (h.below hal).store ho hk hat
  have hK := (Keeps.of_below (F := fun k => k = B ∨ (v.ownBlock = some k ∧ b0 ≤ k)) hal).trans h4
  have hs := hb.size
  refine ⟨KeepsFrom.of_keeps hK fun k hF hlt hAk => ?_, KeepG.of_keeps hK (fun k hk => ?_) (fun k hk hF => ?_), h1, hb.trans (hK.below (by omega) fun k hF => ?_), h2, h3⟩
  · rcases hF with e | ⟨e, _⟩
    · omega
    · rcases Nat.eq_zero_or_pos n with hn | hn
      · rw [hv hn] at e; cases e
      · exact h.own.isCells hn hsz e
  · have := hG k hk; omega
  · have := hG k hk
    rcases hF with e | e
    · omega
    · omega
  · rcases hF with e | e
    · omega
    · exact e.2
def CollectPost (xs : List Int) (w : World) (e : Ending) (w' : World) : Prop := ∃ v, e = .returned v ∧ Own w' w.heap.size 1 v xs.length (xs.flatMap intC) ∧ Below w.heap.size w w'
def CollI (w : World) (pre : List Int) (W : World) : Prop := ∃ v, BoxOwn W w.heap.size w.heap.size 1 v pre.length (pre.flatMap intC) ∧ (pre.length = 0 → v = .slice none 0 0) ∧ Below w.heap.size w W
set_option maxHeartbeats 1000000 in
theorem appendSeq_any (gf : Nat) (lb : Array Value) (G : Nat → Prop) (xs : List Int) (w : World) (hg : Gives Try.prog gf lb encI G xs w) (eg : ∀ args w, (callFunc gf args).run Try.prog w = .ok (.enter gf args) w)
    (hG : ∀ k, G k → k < w.heap.size) (hl : xs.length ≤ 1099511627776) :
    Calls Try.prog 96 #[.slice none 0 0, .func (.func gf) #[] lb] w (CollectPost xs w) := by
  obtain ⟨i0, hi0, hz00, hz01, hz02⟩ := info_parts info_int
  have HG := Lib.hid hG
  have HGV := Lib.hid hg
  clear hG hg
  refine (callsIn_wide (n := 9)).1 ?_; refine callsIn_of_wp_marks Try.func96 rfl trivial ?_ rfl; simp only [Try.ntmps96, List.size_toArray, List.length_cons, List.length_nil, Nat.reduceAdd, Nat.reduceSub, Array.replicate_succ, Array.replicate_zero, List.push_toArray, List.append_toArray, List.nil_append, List.cons_append]
  gi_wp2
  refine wpIn_iter (n := 9) (by omega) (gf := gf) (lb := lb) rfl eg (HGV.out.below (below_alloc (Below.refl _ _) _)) (fun k hk => by have := HG.out k hk; simp; omega) (fun _ => rfl) (CollI w) (fun _ _ _ => False)
    (fun s W W' hL ⟨v, h1, h2, h3⟩ => ⟨v, h1.lull hL, h2, hL.below h3 (by simp) (Nat.le_refl _)⟩) (fun _ _ _ _ _ h => h)
    ⟨.slice none 0 0, ⟨by simp, by go_simp, by simp [go_sem], Own.nil _ _ _, by simp [Value.ownBlock]⟩, fun _ => rfl, below_alloc (Below.refl _ _) _⟩
    (fun x a' _ => a' = { tmps := #[.slice none 0 0, .func (.func gf) #[] lb, .pointer (some ⟨w.heap.size, 0, none⟩), undef, .slice none 0 0, .int .i64 x, .func (.func gf) #[] lb, .int .i64 x, undef, undef, undef, undef, undef], defers := [] }) (fun _ _ _ _ _ h => h) ?assign ?body ?done ?stop
  case assign =>
    intro l pre x W K hi hs hK
    gi_wp2
    exact hK _ _ (KeepsFrom.refl _ _) (fun _ _ => rfl) hi rfl
  case body =>
    rintro l pre x a' W hs ⟨v, h1, h2, h3⟩ rfl hlt
    have hs' : w.heap.size + 1 ≤ W.heap.size := by simpa using hs
    have hc := h1.c
    have H1 := Lib.hid h1
    have H2 := Lib.hid h2
    have H3 := Lib.hid h3
    clear h1 h2 h3
    gi_wp2_with ((gi_at_builtin; refine wpListIn_append_src rfl (.tmp 8) (.tmp 10) _ rfl w.heap.size 3 i0 _ 1 8 Try.underlying129 hi0 hz00 hz01 hz02 rfl (by decide) _ pre.length (pre.flatMap intC) rfl (H1.out.own.below (by (repeat (first | exact Below.refl _ _ | assumption | with_reducible refine below_alloc ?_ _ | with_reducible refine below_grow ?_ _ | with_reducible refine below_drewN ?_ _ | with_reducible refine below_drew ?_ | with_reducible refine below_setCell ?_ (by first | (dsimp only; omega) | (simp; done) | (simp; omega)) _)))) _ 1 [.int .i64 x] rfl rfl (Src.one _ _ _ _) (by simp [Value.oneCell']) (by unfold maxLen; omega) (by omega) (by first | (simp; done) | omega | (simp; omega)) ?_; intro v1 w1 hown1 hg1 hat1 hty1; have HTY1 := Lib.hid hty1; clear hty1); obtain ⟨g1, o1, c1, rfl, q1, q2, q3, q4⟩ := hown1.form; obtain ⟨r1, r2, r3, r4, r5, r6⟩ := H1.out.round (A := w.heap.size + 1) (G := G) (by omega) H2.out H3.out (Nat.le_refl _) (Nat.le_refl _) (by omega) HG.out hown1 hg1 hat1; have R := Lib.hid (And.intro r1 (And.intro r2 (And.intro r3 r4))); clear hown1 hg1 hat1 r1 r2 r3 r4)
    exact ⟨by rw [World.size_alloc]; exact R.out.1, R.out.2.1, _, by simpa [intC] using R.out.2.2.1, fun h => by simp at h, R.out.2.2.2⟩
  case done =>
    rintro D W hD ⟨v, h1, h2, h3⟩ hK
    have hD' : w.heap.size + 1 ≤ D := by simpa using hD
    have hc := h1.c
    have H1 := Lib.hid h1
    have H3 := Lib.hid h3
    clear h1 h2 h3
    gi_wp2
    refine ⟨by simp, .inl ⟨_, _, rfl, run_takeDeferred hK, ?_⟩⟩
    have hL : Lull (w.heap.size + 1) W (W.putObj D (.deferred none)) := Lull.of_grown (grownBy_putObj' W D _) (fun r e => by cases e; exact ⟨hD', _, hK, rfl⟩)
    exact ⟨_, results_tmp rfl _ _ _, v, rfl, H1.out.own.lull hL, hL.below H3.out (by omega) (Nat.le_refl _)⟩
  case stop =>
    rintro D c pre W _ _ h _
    exact h.elim
theorem collect_any (gf : Nat) (lb : Array Value) (G : Nat → Prop) (xs : List Int) (w : World) (hg : Gives Try.prog gf lb encI G xs w) (eg : ∀ args w, (callFunc gf args).run Try.prog w = .ok (.enter gf args) w)
    (hG : ∀ k, G k → k < w.heap.size) (hl : xs.length ≤ 1099511627776) : Calls Try.prog 75 #[.func (.func gf) #[] lb] w (CollectPost xs w) := by
  have HC := Lib.hid (appendSeq_any gf lb G xs w hg eg hG hl)
  clear hg hG
  go_enter Try.func75, Try.ntmps75
  go_wp2_with (go_at_call 96; refine HC.out.mono ?_; rintro e w1 ⟨v, rfl, h1, h2⟩; have H1 := Lib.hid h1; clear h1)
  go_ret
  exact ⟨v, rfl, H1.out, h2⟩
end Go.Proofs.Ytkinjjgaecbogaa
