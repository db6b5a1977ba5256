/-
  The walk of layer 16 (pattern): Literal. Conditions: texts of at most 2^30 bytes; the library's variable MaxLen holds some number.
-/
import Derived.Test.YtnecmpgcjgkheaaGreatProg
import Derived.Test.YtnecmpgcjgkheaaGreatOwn
import Derived.Test.YtnecmpgcjgkheaaGreatPat19
import Derived.Lib.SlBytesRow
import Derived.Lib.BufferRead
set_option linter.unusedSimpArgs false
set_option linter.unusedVariables false
namespace Go.Proofs.YtnecmpgcjgkheaaGreat
open Go.ChangeShapes Go.WideShapes Go.Deep Go.RowKit
def bytC (x : UInt8) : List Value := [.int .u8 x.toNat]
theorem info_byt : (Tryz.prog.info? 5).map (fun i => (i.zero, i.size, i.bytes)) = some (some (.int .u8 0), 1, 1) := by kernel_rfl
end Go.Proofs.YtnecmpgcjgkheaaGreat
namespace Go.Proofs.YtnecmpgcjgkheaaGreat.Pat
open Go.ChangeShapes Go.WideShapes Go.Deep Go.RowKit
set_option maxRecDepth 100000
theorem bytC_get (xs : List UInt8) (j : Nat) : (xs.flatMap bytC)[j]? = (xs[j]?).map fun y => Value.int .u8 y.toNat := by
  induction xs generalizing j with
  | nil => simp
  | cons y ys ih =>
    cases j with
    | zero => simp [bytC]
    | succ j => simpa [bytC] using ih j
/-- 'string(b)' of an own slice of bytes. -/
theorem conv_bytes {w : World} {b0 n : Nat} {v : Value} {l : List UInt8} (h : Own w b0 1 v n (l.flatMap bytC)) (hn : n = l.length) : (convert 76 9 v).run Tryz.prog w = .ok (.string (B l)) w := by
  subst hn
  rcases h.2 with ⟨h0, rfl | ⟨g, off, rfl, hg⟩⟩ | ⟨g, off, c, rfl, h1, h2, h3, h4, h5, h6⟩
  · have : l = [] := List.eq_nil_of_length_eq_zero h0
    subst this
    exact Lib.run_convert_nil_bytes w _ _ _ _ Tryz.underlying76 Tryz.underlying5 Tryz.underlying9
  · have : l = [] := List.eq_nil_of_length_eq_zero h0
    subst this
    have := Lib.run_convert_whole (P := Tryz.prog) w _ _ _ Tryz.underlying76 Tryz.underlying5 Tryz.underlying9 g off (B []) (fun i hi => by rw [B_size] at hi; simp at hi) 0
    rw [B_size] at this
    exact this
  · have := Lib.run_convert_whole (P := Tryz.prog) w _ _ _ Tryz.underlying76 Tryz.underlying5 Tryz.underlying9 g off (B l) (fun i hi => by
      rw [B_size] at hi
      refine h6 i _ ?_
      rw [bytC_get, List.getElem?_eq_getElem hi]
      rfl) c
    rwa [B_size] at this
end Go.Proofs.YtnecmpgcjgkheaaGreat.Pat
namespace Go.Proofs.YtnecmpgcjgkheaaGreat.Pat
open Go.ChangeShapes Go.WideShapes Go.Deep Go.RowKit Go.Shelf
attribute [local go_sem] Oper.semAt_some
set_option maxRecDepth 100000
def At.isByte : At → Bool
  | .byte _ => true
  | _ => false
theorem byte_kind (a : At) : (a.kind != 1) = !a.isByte := by cases a <;> rfl
/-- What holds at each round of Literal. -/
structure LitI (w : World) (A : Nat) (pre : List At) (v : Value) (W : World) : Prop where
  o : BoxOwn W A (w.heap.size + 2) 1 v pre.length ((pre.map At.byt).flatMap bytC)
  z : pre.length = 0 → v = .slice none 0 0
  r0 : W.cell? ⟨w.heap.size, 0, none⟩ = some (.string (B []))
  f0 : W.frozen? ⟨w.heap.size, 0, none⟩ = false
  r1 : W.cell? ⟨w.heap.size + 1, 0, none⟩ = some (.bool false)
  f1 : W.frozen? ⟨w.heap.size + 1, 0, none⟩ = false
  a : ∀ x ∈ pre, x.isByte = true
  b : Below w.heap.size w W
  s : A ≤ W.heap.size
theorem LitI.lull {w W W' : World} {A : Nat} {pre : List At} {v : Value} (h : LitI w A pre v W) (hL : Lull A W W') (hA : w.heap.size ≤ A) : LitI w A pre v W' :=
  ⟨h.o.lull hL, h.z, hL.cell h.r0, (hL.frozen h.r0).trans h.f0, hL.cell h.r1, (hL.frozen h.r1).trans h.f1, h.a, hL.below h.b hA (Nat.le_refl _), Nat.le_trans h.s hL.size⟩
theorem LitI.below {w W W' : World} {A : Nat} {pre : List At} {v : Value} (h : LitI w A pre v W) (hb : Below W.heap.size W W') : LitI w A pre v W' :=
  ⟨h.o.below hb, h.z, (hb.cell (World.block_lt_of_cell? W _ h.r0)).trans h.r0, (hb.frozen (World.block_lt_of_cell? W _ h.r0)).trans h.f0, (hb.cell (World.block_lt_of_cell? W _ h.r1)).trans h.r1, (hb.frozen (World.block_lt_of_cell? W _ h.r1)).trans h.f1, h.a, h.b.trans (hb.mono h.b.size), Nat.le_trans h.s hb.size⟩
/-- Literal has ended: an atom is none of a byte. -/
structure LitX (w : World) (A : Nat) (pre : List At) (W : World) : Prop where
  x : pre.all At.isByte = false
  r0 : W.cell? ⟨w.heap.size, 0, none⟩ = some (.string (B []))
  r1 : W.cell? ⟨w.heap.size + 1, 0, none⟩ = some (.bool false)
  b : Below w.heap.size w W
  s : A ≤ W.heap.size
theorem LitX.lull {w W W' : World} {A : Nat} {pre : List At} (h : LitX w A pre W) (hL : Lull A W W') (hA : w.heap.size ≤ A) : LitX w A pre W' :=
  ⟨h.x, hL.cell h.r0, hL.cell h.r1, hL.below h.b hA (Nat.le_refl _), Nat.le_trans h.s hL.size⟩
def litB (l : List At) : Bool := l.all At.isByte
def litT (l : List At) : List UInt8 := if litB l = true then l.map At.byt else []
def LitP (p : List UInt8) (w : World) (e : Ending) (w' : World) : Prop := e = .returned (.tuple #[.string (B (litT (parse p))), .bool (litB (parse p))]) ∧ Below w.heap.size w w'
set_option maxHeartbeats 3200000 in
theorem literal_any (p : List UInt8) (w : World) (hm : MaxL w) (hp : p.length ≤ 1073741824) : Calls Tryz.prog 67 #[.string (B p)] w (LitP p w) := by
  obtain ⟨i1, hi1, hz10, hz11, hz12⟩ := info_parts info_byt
  have hlt := hm.lt
  have hpl := parse_len p
  have hg := atoms_gives p (((w.alloc (.cells #[.string (B [])] 9)).alloc (.cells #[.bool false] 4)).alloc (.cells #[.slice none 0 0] 76)) (hm.below (by (repeat (first | exact Below.refl _ _ | assumption | with_reducible refine below_alloc ?_ _ | with_reducible refine below_grow ?_ _ | with_reducible refine below_drewN ?_ _ | with_reducible refine below_drew ?_ | with_reducible refine below_setCell ?_ (by first | (dsimp only; omega) | (simp; done) | (simp; omega)) _)))) hp
  have HGV := Lib.hid hg
  have HAT := Lib.hid fun w => atoms_any p w
  clear hg hm
  refine (callsIn_wide (n := 9)).1 ?_; refine callsIn_of_wp_marks Tryz.func67 rfl trivial ?_ rfl; simp only [Tryz.ntmps67, List.size_toArray, List.length_cons, List.length_nil, Nat.reduceAdd, Nat.reduceSub, Array.replicate_succ, Array.replicate_zero, List.push_toArray, List.append_toArray, List.nil_append, List.cons_append]
  refine wpIn_wide.2 ?_
  go_wp2_with (go_at_call 81; refine (HAT.out _).mono ?_; rintro e w1 ⟨rfl, rfl⟩)
  refine (wpIn_wide (n := 9)).1 ?_
  have HG := HGV.out
  simp only [World.size_alloc] at HG
  have HG0 : Hid (∀ k, (k = w.heap.size + 1 + 1 + 1 ∨ k = 0) → k < w.heap.size + 1 + 1 + 1 + 1) := fun k hk => by omega
  refine wpIn_iter (n := 9) (by omega) (gf := 92) rfl (enters_of Tryz.func92 (by kernel_rfl) rfl) HG (fun k hk => by have := HG0.out k hk; simpa using this) (fun _ => rfl)
    (fun pre W => ∃ v, LitI w (w.heap.size + 1 + 1 + 1 + 1) pre v W) (fun c pre W => c = .ret ∧ LitX w (w.heap.size + 1 + 1 + 1 + 1) pre W)
    (fun s W W' hL ⟨v, h⟩ => ⟨v, h.lull (by simpa using hL) (by omega)⟩) (fun c s W W' hL ⟨e, h⟩ => ⟨e, h.lull (by simpa using hL) (by omega)⟩)
    ⟨.slice none 0 0, ?init⟩
    (fun x a' W' => ∃ ub, a' = { tmps := #[.string (B p), undef, .pointer (some ⟨w.heap.size, 0, none⟩), .pointer (some ⟨w.heap.size + 1, 0, none⟩), .pointer (some ⟨w.heap.size + 1 + 1, 0, none⟩), .pointer (some ⟨ub, 0, none⟩), .string (B p), .func (.func 92) #[] #[.pointer (some ⟨w.heap.size + 1 + 1 + 1, 0, none⟩)], atV x, undef, undef, undef, undef, undef, undef, undef, undef, undef, undef], defers := [] } ∧ BoxN W' ub (atC x)) (fun x a' W W' hL ⟨ub, e, h⟩ => ⟨ub, e, h.block (hL.block (h.c 0 _ rfl)) hL.size⟩) ?assign ?body ?done ?stop
  case init =>
    refine ⟨⟨by simp, by go_simp, by simp [go_sem], Own.nil _ _ _, by simp [Value.ownBlock]⟩, fun _ => rfl, by go_simp, by simp [go_sem], by go_simp, by simp [go_sem], by simp, by (repeat (first | exact Below.refl _ _ | assumption | with_reducible refine below_alloc ?_ _ | with_reducible refine below_grow ?_ _ | with_reducible refine below_drewN ?_ _ | with_reducible refine below_drew ?_ | with_reducible refine below_setCell ?_ (by first | (dsimp only; omega) | (simp; done) | (simp; omega)) _)), by simp⟩
  case assign =>
    intro l pre x W K ⟨v, hi⟩ hs hK
    have hK := hK { tmps := #[.string (B p), undef, .pointer (some ⟨w.heap.size, 0, none⟩), .pointer (some ⟨w.heap.size + 1, 0, none⟩), .pointer (some ⟨w.heap.size + 1 + 1, 0, none⟩), .pointer (some ⟨W.heap.size, 0, none⟩), .string (B p), .func (.func 92) #[] #[.pointer (some ⟨w.heap.size + 1 + 1 + 1, 0, none⟩)], atV x, undef, undef, undef, undef, undef, undef, undef, undef, undef, undef], defers := [] } _
      (KeepsFrom.allocN _ W (.cells (atC x).toArray 87)) (fun k hk => heap_alloc_lt _ _ _ (by have := HG0.out k hk; simp at hs; omega))
      ⟨v, hi.below (below_alloc (Below.refl _ _) _)⟩ ⟨_, rfl, BoxN.new W _ _⟩
    unfold encA atV atC at *
    have HK := Lib.hid hK
    clear hK
    gi_wp2
    exact HK.out
  case body =>
    rintro l pre x a' W hs ⟨v, h1⟩ ⟨ub, rfl, hB⟩ hlt
    have hs' : w.heap.size + 1 + 1 + 1 + 1 ≤ W.heap.size := by simpa using hs
    have hc := h1.o.c
    have hf := h1.o.f
    have r0 := h1.r0
    have r1 := h1.r1
    have f0 := h1.f0
    have f1 := h1.f1
    have b0' := hB.c 0 _ rfl
    have b1' := hB.c 1 _ rfl
    have hk1 := byte_kind x
    have H1 := Lib.hid h1
    haveI : Old W (w.heap.size) := ⟨by omega⟩
    haveI : Old W (w.heap.size + 1) := ⟨by omega⟩
    haveI : Old W (w.heap.size + 1 + 1) := ⟨by omega⟩
    clear h1 hB
    unfold encA atV at *
    cases hb : x.isByte with
    | false =>
      rw [hb] at hk1
      gi_wp2
      have hS := (Keeps.setCell (F := fun k => k = w.heap.size ∨ k = w.heap.size + 1) W (a := ⟨w.heap.size, 0, none⟩) (.inl rfl) (.string (B []))).trans (Keeps.setCell (F := fun k => k = w.heap.size ∨ k = w.heap.size + 1) (W.setCell ⟨w.heap.size, 0, none⟩ (.string (B []))) (a := ⟨w.heap.size + 1, 0, none⟩) (.inr rfl) (.bool false))
      refine ⟨KeepsFrom.of_keeps hS (fun k hF _ hA => by simp at hA; omega), rfl, ⟨by simp [hb], ?_, ?_, below_keeps H1.out.b hS (fun k hk => by omega), Nat.le_trans H1.out.s hS.size⟩⟩
      · rw [World.cell?_setCell_other _ _ _ _ (by simp)]
        exact World.cell?_setCell_same' _ _ _ (by rw [r0]; rfl)
      · exact World.cell?_setCell_same' _ _ _ (by rw [World.cell?_setCell_other _ _ _ _ (by simp), r1]; rfl)
    | true =>
      rw [hb] at hk1
      gi_wp2_with ((gi_at_builtin; refine wpListIn_append_src rfl (.tmp 12) (.tmp 15) _ rfl (w.heap.size + 1 + 1 + 1 + 1) 5 i1 _ 1 1 Tryz.underlying76 hi1 hz10 hz11 hz12 rfl (by decide) _ pre.length ((pre.map At.byt).flatMap bytC) rfl (H1.out.o.own.below (by (repeat (first | exact Below.refl _ _ | assumption | with_reducible refine below_alloc ?_ _ | with_reducible refine below_grow ?_ _ | with_reducible refine below_drewN ?_ _ | with_reducible refine below_drew ?_ | with_reducible refine below_setCell ?_ (by first | (dsimp only; omega) | (simp; done) | (simp; omega)) _)))) _ 1 (bytC x.byt) rfl rfl (Src.one _ _ _ _) (by simp [bytC, Value.oneCell']) (by unfold maxLen; omega) (by omega) (by first | (simp; done) | omega | (simp; omega)) ?_; intro v1 w1 hown1 hg1 hat1 hty1; have HTY1 := Lib.hid hty1; clear hty1); obtain ⟨g1, o1, c1, rfl, q1, q2, q3, q4⟩ := hown1.form; obtain ⟨s1, s2, s3, s4, s5, s6⟩ := H1.out.o.round2 (A := w.heap.size + 1 + 1 + 1 + 1) (G := fun k => k = w.heap.size + 1 + 1 + 1 ∨ k = 0) (by omega) H1.out.z (by omega) (fun k hk => by omega) hown1 hg1 hat1; have R := Lib.hid (And.intro s1 (And.intro s2 (And.intro s3 s4))); clear hown1 hg1 hat1 s1 s2 s3 s4)
      obtain ⟨s1, s2, s3, s4⟩ := R.out
      refine ⟨by simpa using s1, s2, _, ⟨by simpa [List.flatMap_append] using s3, fun h => by simp at h, ?_, ?_, ?_, ?_, fun y hy => ?_, below_keeps H1.out.b s4 (fun k hk => by omega), Nat.le_trans H1.out.s s4.size⟩⟩
      · exact (World.cell?_of_block (w := W) (s4.block w.heap.size (by omega) (by omega))).trans r0
      · exact (World.frozen?_of_block (w := W) (s4.block w.heap.size (by omega) (by omega))).trans f0
      · exact (World.cell?_of_block (w := W) (s4.block (w.heap.size + 1) (by omega) (by omega))).trans r1
      · exact (World.frozen?_of_block (w := W) (s4.block (w.heap.size + 1) (by omega) (by omega))).trans f1
      · rcases List.mem_append.1 hy with hy | hy
        · exact H1.out.a y hy
        · simp at hy; subst hy; exact hb
  case done =>
    rintro D W hD ⟨v, h1⟩ hK
    have hD' : w.heap.size + 1 + 1 + 1 + 1 ≤ D := by simpa using hD
    have hc := h1.o.c
    have r0 := h1.r0
    have r1 := h1.r1
    have f0 := h1.f0
    have f1 := h1.f1
    have hcv := conv_bytes (n := (parse p).length) (l := (parse p).map At.byt) h1.o.own (by simp)
    have hs' := h1.s
    haveI : Old W (w.heap.size) := ⟨by omega⟩
    haveI : Old W (w.heap.size + 1) := ⟨by omega⟩
    haveI : Old W (w.heap.size + 1 + 1) := ⟨by omega⟩
    have HL : Hid (litB (parse p) = true) := by show _ = true; unfold litB; rw [List.all_eq_true]; exact h1.a
    have H1 := Lib.hid h1
    clear h1
    gi_wp2
    go_wp2
    have hS := (Keeps.setCell (F := fun k => k = w.heap.size ∨ k = w.heap.size + 1) W (a := ⟨w.heap.size, 0, none⟩) (.inl rfl) (.string (B ((parse p).map At.byt)))).trans (Keeps.setCell (F := fun k => k = w.heap.size ∨ k = w.heap.size + 1) (W.setCell ⟨w.heap.size, 0, none⟩ (.string (B ((parse p).map At.byt)))) (a := ⟨w.heap.size + 1, 0, none⟩) (.inr rfl) (.bool true))
    have q0 : ((W.setCell ⟨w.heap.size, 0, none⟩ (.string (B ((parse p).map At.byt)))).setCell ⟨w.heap.size + 1, 0, none⟩ (.bool true)).cell? ⟨w.heap.size, 0, none⟩ = some (.string (B ((parse p).map At.byt))) := by
      rw [World.cell?_setCell_other _ _ _ _ (by simp)]
      exact World.cell?_setCell_same' _ _ _ (by rw [r0]; rfl)
    have q1 : ((W.setCell ⟨w.heap.size, 0, none⟩ (.string (B ((parse p).map At.byt)))).setCell ⟨w.heap.size + 1, 0, none⟩ (.bool true)).cell? ⟨w.heap.size + 1, 0, none⟩ = some (.bool true) :=
      World.cell?_setCell_same' _ _ _ (by rw [World.cell?_setCell_other _ _ _ _ (by simp), r1]; rfl)
    have hK' := (hS.block D (Array.getElem?_eq_some_iff.1 hK).1 (by omega)).trans hK
    have hB2 := below_keeps H1.out.b hS (fun k hk => by omega)
    generalize (W.setCell ⟨w.heap.size, 0, none⟩ (.string (B ((parse p).map At.byt)))).setCell ⟨w.heap.size + 1, 0, none⟩ (.bool true) = W2 at *
    have hL : Lull (w.heap.size + 1 + 1 + 1 + 1) W2 (W2.putObj D (.deferred none)) := Lull.of_grown (grownBy_putObj' _ D _) (fun r e => by cases e; exact ⟨hD', _, hK', rfl⟩)
    have p0 := hL.cell q0
    have p1 := hL.cell q1
    refine ⟨by simp, .inl ⟨_, _, rfl, run_takeDeferred hK', ?_⟩⟩
    refine ⟨.tuple #[.string (B ((parse p).map At.byt)), .bool true], by simp [results, Tryz.results67, go_sem, p0, p1], ?_, hL.below hB2 (by omega) (Nat.le_refl _)⟩
    unfold litT
    rw [HL.out, if_pos rfl]
  case stop =>
    rintro D c pre W hD hpre ⟨rfl, hx⟩ hK
    have hD' : w.heap.size + 1 + 1 + 1 + 1 ≤ D := by simpa using hD
    have hL : Lull (w.heap.size + 1 + 1 + 1 + 1) W (W.putObj D (.deferred none)) := Lull.of_grown (grownBy_putObj' _ D _) (fun r e => by cases e; exact ⟨hD', _, hK, rfl⟩)
    have p0 := hL.cell hx.r0
    have p1 := hL.cell hx.r1
    have hlb : litB (parse p) = false := by
      obtain ⟨t, ht⟩ := hpre
      unfold litB
      rw [← ht, List.all_append, hx.x, Bool.false_and]
    have hB2 := hL.below hx.b (by omega) (Nat.le_refl _)
    gi_wp2
    refine ⟨by simp, .inl ⟨_, _, rfl, run_takeDeferred hK, ?_⟩⟩
    refine ⟨.tuple #[.string (B []), .bool false], by simp [results, Tryz.results67, go_sem, p0, p1], ?_, hB2⟩
    unfold litT
    rw [hlb, if_neg (by simp)]
end Go.Proofs.YtnecmpgcjgkheaaGreat.Pat
