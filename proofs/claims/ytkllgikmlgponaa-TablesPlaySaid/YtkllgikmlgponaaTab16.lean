/-
  The walks of layer 19 (tables), on: With, Names. Conditions: at most 2^20 entries.
-/
import Derived.Test.YtkllgikmlgponaaTab15
import Derived.Test.YtkllgikmlgponaaBegins
import Derived.Test.YtkllgikmlgponaaStr
import Derived.Test.YtkllgikmlgponaaShelfB
import Derived.WalkMore
namespace Go.Proofs.Ytkllgikmlgponaa.Tab
open Go.ChangeShapes Go.WideShapes Go.Deep Go.RowKit Go.Shelf
attribute [local go_sem] Oper.semAt_some
set_option maxRecDepth 100000
def begB (head : List UInt8) (e : Ent) : Bool := Lib.hasPrefix e.name head
/-- The names With tells. -/
def withL (xs : List Ent) (head : List UInt8) : List (List UInt8) := ((xs.drop (place xs head)).takeWhile (begB head)).map Ent.name
theorem prefix_b (s p : List UInt8) (w : World) : Calls Try.prog 47 #[.string (B s), .string (B p)] w fun e w' => e = .returned (.bool (Lib.hasPrefix s p)) ∧ w = w' :=
  (Try.strings_HasPrefix (B s) (B p) w).mono fun e w' ⟨he, hw⟩ => ⟨by rw [he, B_data, B_data], hw.symm⟩
theorem takeW_all {α : Type} (p : α → Bool) : ∀ {l : List α}, (∀ x ∈ l, p x = true) → l.takeWhile p = l
  | [], _ => rfl
  | a :: r, h => by rw [List.takeWhile_cons, if_pos (h a (by simp)), takeW_all p fun x hx => h x (by simp [hx])]
theorem takeW_stop {α : Type} (p : α → Bool) {x : α} (hx : p x = false) : ∀ {q t : List α}, (∀ y ∈ q, p y = true) → (q ++ [x] ++ t).takeWhile p = q
  | [], t, _ => by simp [hx]
  | a :: r, t, h => by
    have := takeW_stop p hx (q := r) (t := t) fun y hy => h y (by simp [hy])
    simp [h a (by simp)] at this ⊢
    exact this
structure WithI (w : World) (A : Nat) (head : List UInt8) (pre : List Ent) (v : Value) (W : World) : Prop where
  o : BoxOwn W A (w.heap.size + 1) 1 v pre.length ((pre.map Ent.name).flatMap strC)
  z : pre.length = 0 → v = .slice none 0 0
  h : W.cell? ⟨w.heap.size, 0, none⟩ = some (.string (B head))
  a : ∀ x ∈ pre, begB head x = true
  b : Below w.heap.size w W
  s : A ≤ W.heap.size
theorem WithI.lull {w W W' : World} {A : Nat} {head : List UInt8} {pre : List Ent} {v : Value} (h : WithI w A head pre v W) (hL : Lull A W W') (hA : w.heap.size ≤ A) : WithI w A head pre v W' :=
  ⟨h.o.lull hL, h.z, hL.cell h.h, h.a, hL.below h.b hA (Nat.le_refl _), Nat.le_trans h.s hL.size⟩
theorem WithI.below {w W W' : World} {A : Nat} {head : List UInt8} {pre : List Ent} {v : Value} (h : WithI w A head pre v W) (hb : Below W.heap.size W W') : WithI w A head pre v W' :=
  ⟨h.o.below hb, h.z, (hb.cell (World.block_lt_of_cell? W _ h.h)).trans h.h, h.a, h.b.trans (hb.mono h.b.size), Nat.le_trans h.s hb.size⟩
/-- With has ended at a name that doesn't begin so. -/
structure WithX (w : World) (A : Nat) (head : List UInt8) (pre : List Ent) (W : World) : Prop where
  x : ∃ q x v, pre = q ++ [x] ∧ begB head x = false ∧ WithI w A head q v W
theorem WithX.lull {w W W' : World} {A : Nat} {head : List UInt8} {pre : List Ent} (h : WithX w A head pre W) (hL : Lull A W W') (hA : w.heap.size ≤ A) : WithX w A head pre W' := by
  obtain ⟨q, x, v, e, hx, h⟩ := h.x
  exact ⟨q, x, v, e, hx, h.lull hL hA⟩
def NamP (ns : List (List UInt8)) (w : World) (e : Ending) (w' : World) : Prop := ∃ v, e = .returned v ∧ Own w' w.heap.size 1 v ns.length (ns.flatMap strC) ∧ Below w.heap.size w w'
set_option maxHeartbeats 3200000 in
theorem with_any (w : World) (b0 tb : Nat) (lv : Value) (kind : Int) (xs : List Ent) (head : List UInt8) (hx : xs.length ≤ 1048576) (hh : TabAt w b0 tb lv kind xs) :
    Calls Try.prog 14 #[.pointer (some ⟨tb, 0, none⟩), .string (B head)] w (NamP (withL xs head) w) := by
  obtain ⟨i0, hi0, hz00, hz01, hz02⟩ := info_parts info_str
  have hg := from_gives ((w.alloc (.cells #[.string (B head)] 9)).alloc (.cells #[.slice none 0 0] 30)) b0 tb lv kind xs head hx (hh.below (by (repeat (first | exact Below.refl _ _ | assumption | with_reducible refine below_alloc ?_ _ | with_reducible refine below_grow ?_ _ | with_reducible refine below_drewN ?_ _ | with_reducible refine below_drew ?_ | with_reducible refine below_setCell ?_ (by first | (dsimp only; omega) | (simp; done) | (simp; omega)) _))))
  have HGV := Lib.hid hg
  have HFR := Lib.hid fun w => from_any w tb head
  have HPX := Lib.hid fun s w => prefix_b s head w
  have hdl : (xs.drop (place xs head)).length ≤ 1048576 := by rw [List.length_drop]; omega
  have HG0 : Hid (∀ k, (k = w.heap.size + 1 + 1 ∨ k = w.heap.size + 1 + 1 + 1 ∨ k = tb ∨ lv.ownBlock = some k) → k < w.heap.size + 1 + 1 + 1 + 1 ∧ k ≠ w.heap.size + 1) := fun k hk => by
    have h1 := hh.lt
    rcases hk with rfl | rfl | rfl | e
    · omega
    · omega
    · omega
    · have := hh.own.lt k e; omega
  have HWL := Lib.hid (show withL xs head = ((xs.drop (place xs head)).takeWhile (begB head)).map Ent.name from rfl)
  clear hg hh
  generalize withL xs head = res at *
  generalize xs.drop (place xs head) = ys at *
  refine (callsIn_wide (n := 9)).1 ?_; refine callsIn_of_wp_marks Try.func14 rfl trivial ?_ rfl; simp only [Try.ntmps14, List.size_toArray, List.length_cons, List.length_nil, Nat.reduceAdd, Nat.reduceSub, Array.replicate_succ, Array.replicate_zero, List.push_toArray, List.append_toArray, List.nil_append, List.cons_append]
  refine wpIn_wide.2 ?_
  go_wp2
  go_step3
  go_wp2
  go_step3
  go_wp2_with (go_at_call 46; refine (HFR.out _).mono ?_; rintro e w1 ⟨rfl, rfl⟩)
  refine (wpIn_wide (n := 9)).1 ?_
  have HG := HGV.out
  simp only [World.size_alloc] at HG
  refine wpIn_iter (n := 9) (by omega) (gf := 67) rfl (enters_of Try.func67 (by kernel_rfl) rfl) HG (fun k hk => by have := (HG0.out k hk).1; simpa using this) (fun _ => rfl)
    (fun pre W => ∃ v, WithI w (w.heap.size + 1 + 1 + 1 + 1) head pre v W) (fun c pre W => c = .exit 0 ∧ WithX w (w.heap.size + 1 + 1 + 1 + 1) head pre W)
    (fun s W W' hL ⟨v, h⟩ => ⟨v, h.lull (by simpa using hL) (by omega)⟩) (fun c s W W' hL ⟨e, h⟩ => ⟨e, h.lull (by simpa using hL) (by omega)⟩)
    ⟨.slice none 0 0, ?init⟩
    (fun x a' W' => ∃ ub, a' = { tmps := #[.pointer (some ⟨tb, 0, none⟩), .string (B head), undef, .pointer (some ⟨w.heap.size, 0, none⟩), .pointer (some ⟨w.heap.size + 1, 0, none⟩), .pointer (some ⟨ub, 0, none⟩), .pointer (some ⟨tb, 0, none⟩), .string (B head), .func (.func 67) #[] #[.pointer (some ⟨w.heap.size + 1 + 1, 0, none⟩), .pointer (some ⟨w.heap.size + 1 + 1 + 1, 0, none⟩)], .agg #[.string (B x.name), .string (B x.val)], undef, undef, undef, undef, undef, undef, undef, undef, undef, undef, undef], defers := [] } ∧ BoxN W' ub (Ent.cells x)) (fun x a' W W' hL ⟨ub, e, h⟩ => ⟨ub, e, h.block (hL.block (h.c 0 _ rfl)) hL.size⟩) ?assign ?body ?done ?stop
  case init =>
    refine ⟨⟨by simp, by go_simp, by simp [go_sem], Own.nil _ _ _, by simp [Value.ownBlock]⟩, fun _ => rfl, by go_simp, by simp, by (repeat (first | exact Below.refl _ _ | assumption | with_reducible refine below_alloc ?_ _ | with_reducible refine below_grow ?_ _ | with_reducible refine below_drewN ?_ _ | with_reducible refine below_drew ?_ | with_reducible refine below_setCell ?_ (by first | (dsimp only; omega) | (simp; done) | (simp; omega)) _)), by simp⟩
  case assign =>
    intro l pre x W K ⟨v, hi⟩ hs hK
    have hK := hK { tmps := #[.pointer (some ⟨tb, 0, none⟩), .string (B head), undef, .pointer (some ⟨w.heap.size, 0, none⟩), .pointer (some ⟨w.heap.size + 1, 0, none⟩), .pointer (some ⟨W.heap.size, 0, none⟩), .pointer (some ⟨tb, 0, none⟩), .string (B head), .func (.func 67) #[] #[.pointer (some ⟨w.heap.size + 1 + 1, 0, none⟩), .pointer (some ⟨w.heap.size + 1 + 1 + 1, 0, none⟩)], .agg #[.string (B x.name), .string (B x.val)], undef, undef, undef, undef, undef, undef, undef, undef, undef, undef, undef], defers := [] } _
      (KeepsFrom.allocN _ W (.cells (Ent.cells x).toArray 25)) (fun k hk => heap_alloc_lt _ _ _ (by have := (HG0.out k hk).1; simp at hs; omega))
      ⟨v, hi.below (below_alloc (Below.refl _ _) _)⟩ ⟨_, rfl, BoxN.new W _ _⟩
    unfold encE Ent.cells at *
    have HK := Lib.hid hK
    clear hK
    gi_wp2
    exact HK.out
  case body =>
    rintro l pre x a' W hs ⟨v, h1⟩ ⟨ub, rfl, hB⟩ hlt
    have hs' : w.heap.size + 1 + 1 + 1 + 1 ≤ W.heap.size := by simpa using hs
    have hc := h1.o.c
    have hf := h1.o.f
    have r0 := h1.h
    have b0' := hB.c 0 _ rfl
    have b1' := hB.c 1 _ rfl
    have H1 := Lib.hid h1
    have HP := Lib.hid fun w => HPX.out x.name w
    haveI : Old W (w.heap.size) := ⟨by omega⟩
    haveI : Old W (w.heap.size + 1) := ⟨by omega⟩
    clear h1 hB
    have hbx : begB head x = Lib.hasPrefix x.name head := rfl
    cases hb : Lib.hasPrefix x.name head with
    | false =>
      rw [hb] at HP hbx
      gi_wp2
      refine (callsIn_wide.2 (HP.out _)).mono ?_
      rintro e w3 ⟨rfl, rfl⟩
      gi_wp2
      exact ⟨KeepsFrom.refl _ _, rfl, ⟨pre, x, v, rfl, hbx, H1.out⟩⟩
    | true =>
      rw [hb] at HP hbx
      gi_wp2
      refine (callsIn_wide.2 (HP.out _)).mono ?_
      rintro e w3 ⟨rfl, rfl⟩
      gi_wp2_with ((gi_at_builtin; refine wpListIn_append_src rfl (.tmp 15) (.tmp 18) _ rfl (w.heap.size + 1 + 1 + 1 + 1) 9 i0 _ 1 16 Try.underlying30 hi0 hz00 hz01 hz02 rfl (by decide) _ pre.length ((pre.map Ent.name).flatMap strC) rfl (H1.out.o.own.below (by (repeat (first | exact Below.refl _ _ | assumption | with_reducible refine below_alloc ?_ _ | with_reducible refine below_grow ?_ _ | with_reducible refine below_drewN ?_ _ | with_reducible refine below_drew ?_ | with_reducible refine below_setCell ?_ (by first | (dsimp only; omega) | (simp; done) | (simp; omega)) _)))) _ 1 (strC x.name) rfl rfl (Src.one _ _ _ _) (by simp [strC, Value.oneCell']) (by unfold maxLen; omega) (by omega) (by first | (simp; done) | omega | (simp; omega)) ?_; intro v1 w1 hown1 hg1 hat1 hty1; have HTY1 := Lib.hid hty1; clear hty1); obtain ⟨g1, o1, c1, rfl, q1, q2, q3, q4⟩ := hown1.form; obtain ⟨s1, s2, s3, s4, s5, s6⟩ := H1.out.o.round2 (A := w.heap.size + 1 + 1 + 1 + 1) (G := fun k => k = w.heap.size + 1 + 1 ∨ k = w.heap.size + 1 + 1 + 1 ∨ k = tb ∨ lv.ownBlock = some k) (by omega) H1.out.z (by omega) (fun k hk => by have := HG0.out k hk; omega) hown1 hg1 hat1; have R := Lib.hid (And.intro s1 (And.intro s2 (And.intro s3 s4))); clear hown1 hg1 hat1 s1 s2 s3 s4)
      obtain ⟨s1, s2, s3, s4⟩ := R.out
      refine ⟨by simpa using s1, s2, _, ⟨by simpa [List.flatMap_append] using s3, fun h => by simp at h, ?_, fun y hy => ?_, below_keeps H1.out.b s4 (fun k hk => by omega), Nat.le_trans H1.out.s s4.size⟩⟩
      · exact (World.cell?_of_block (w := W) (s4.block w.heap.size (by omega) (by omega))).trans r0
      · rcases List.mem_append.1 hy with hy | hy
        · exact H1.out.a y hy
        · simp at hy; subst hy; exact hbx
  case done =>
    rintro D W hD ⟨v, h1⟩ hK
    have hD' : w.heap.size + 1 + 1 + 1 + 1 ≤ D := by simpa using hD
    obtain ⟨A, cc, rfl, -⟩ := h1.o.own.form0
    have hc := h1.o.c
    have hf := h1.o.f
    have hs' := h1.s
    haveI : Old W (w.heap.size + 1) := ⟨by omega⟩
    have HR : Hid (res = ys.map Ent.name) := by show _ = _; rw [HWL.out, takeW_all _ h1.a]
    have H1 := Lib.hid h1
    clear h1
    gi_wp2
    go_wp2
    rw [Exit.noGoto_ret]
    have hS := Keeps.setCell (F := fun k => k = w.heap.size + 1) W (a := ⟨w.heap.size + 1, 0, none⟩) rfl (.slice A ys.length cc)
    have q0 : (W.setCell ⟨w.heap.size + 1, 0, none⟩ (.slice A ys.length cc)).cell? ⟨w.heap.size + 1, 0, none⟩ = some (.slice A ys.length cc) := World.cell?_setCell_same' _ _ _ (by rw [hc]; rfl)
    have hK' := (hS.block D (Array.getElem?_eq_some_iff.1 hK).1 (by omega)).trans hK
    have hB2 := below_keeps H1.out.b hS (fun k hk => by omega)
    have hO2 := H1.out.o.own.keeps hS (fun k hk _ e => H1.out.o.ne (by rw [hk, e]))
    generalize W.setCell ⟨w.heap.size + 1, 0, none⟩ (.slice A ys.length cc) = W2 at *
    have hL : Lull (w.heap.size + 1 + 1 + 1 + 1) W2 (W2.putObj D (.deferred none)) := Lull.of_grown (grownBy_putObj' _ D _) (fun r e => by cases e; exact ⟨hD', _, hK', rfl⟩)
    have p0 := hL.cell q0
    refine ⟨by simp, .inl ⟨_, _, rfl, run_takeDeferred hK', ?_⟩⟩
    refine ⟨_, by simp [results, Try.results14, go_sem, p0]; rfl, _, rfl, ?_, hL.below hB2 (by omega) (Nat.le_refl _)⟩
    rw [HR.out, List.length_map]
    exact (hO2.lull hL).mono (by omega)
  case stop =>
    rintro D c pre W hD hpre ⟨rfl, hx⟩ hK
    have hD' : w.heap.size + 1 + 1 + 1 + 1 ≤ D := by simpa using hD
    obtain ⟨q, x, v, rfl, hxb, h1⟩ := hx.x
    obtain ⟨A, cc, rfl, -⟩ := h1.o.own.form0
    have hc := h1.o.c
    have hf := h1.o.f
    have hs' := h1.s
    haveI : Old W (w.heap.size + 1) := ⟨by omega⟩
    have HR : Hid (res = q.map Ent.name) := by
      show _ = _
      obtain ⟨t, ht⟩ := hpre
      rw [HWL.out, ← ht, takeW_stop _ hxb h1.a]
    have H1 := Lib.hid h1
    clear h1 hx
    gi_wp2
    go_wp2
    rw [Exit.noGoto_ret]
    have hS := Keeps.setCell (F := fun k => k = w.heap.size + 1) W (a := ⟨w.heap.size + 1, 0, none⟩) rfl (.slice A q.length cc)
    have q0 : (W.setCell ⟨w.heap.size + 1, 0, none⟩ (.slice A q.length cc)).cell? ⟨w.heap.size + 1, 0, none⟩ = some (.slice A q.length cc) := World.cell?_setCell_same' _ _ _ (by rw [hc]; rfl)
    have hK' := (hS.block D (Array.getElem?_eq_some_iff.1 hK).1 (by omega)).trans hK
    have hB2 := below_keeps H1.out.b hS (fun k hk => by omega)
    have hO2 := H1.out.o.own.keeps hS (fun k hk _ e => H1.out.o.ne (by rw [hk, e]))
    generalize W.setCell ⟨w.heap.size + 1, 0, none⟩ (.slice A q.length cc) = W2 at *
    have hL : Lull (w.heap.size + 1 + 1 + 1 + 1) W2 (W2.putObj D (.deferred none)) := Lull.of_grown (grownBy_putObj' _ D _) (fun r e => by cases e; exact ⟨hD', _, hK', rfl⟩)
    have p0 := hL.cell q0
    refine ⟨by simp, .inl ⟨_, _, rfl, run_takeDeferred hK', ?_⟩⟩
    refine ⟨_, by simp [results, Try.results14, go_sem, p0]; rfl, _, rfl, ?_, hL.below hB2 (by omega) (Nat.le_refl _)⟩
    rw [HR.out, List.length_map]
    exact (hO2.lull hL).mono (by omega)
theorem names_any (w : World) (b0 tb : Nat) (lv : Value) (kind : Int) (xs : List Ent) (hx : xs.length ≤ 1048576) (hh : TabAt w b0 tb lv kind xs) :
    Calls Try.prog 45 #[.pointer (some ⟨tb, 0, none⟩)] w (NamP (xs.map Ent.name) w) := by
  have hW := with_any w b0 tb lv kind xs [] hx hh
  have e : withL xs [] = xs.map Ent.name := by
    unfold withL
    rw [place_nil, List.drop_zero, takeW_all]
    exact fun x _ => rfl
  rw [e] at hW
  have HW := Lib.hid hW
  clear hW hh e
  go_enter Try.func45, Try.ntmps45
  go_wp2_with (go_at_call 14; refine HW.out.mono ?_; rintro e w1 ⟨v, rfl, h1, h2⟩; have H1 := Lib.hid h1; clear h1)
  go_ret
  exact ⟨v, rfl, H1.out, h2⟩
end Go.Proofs.Ytkllgikmlgponaa.Tab
