/-
  The walk of (*lines.Index).Apply. Conditions: texts of at most 2^32 bytes.
-/
import Derived.Test.YtkinjjgaecbogaaLines7
import Derived.Test.YtkinjjgaecbogaaEdit4
import Derived.Deep.RegionHeld3
import Derived.RegionTactic
import Derived.ChangeAlike
import Derived.BigRegion
namespace Go.Proofs.Ytkinjjgaecbogaa
open Go.ChangeShapes Go.WideShapes Go.Deep Go.RowKit Go.Shelf
attribute [local go_sem] Oper.semAt_some
set_option maxRecDepth 100000
def ApplyNo (w : World) (e : Ending) (w' : World) : Prop := e = .returned (.int .i64 1) ∧ Below w.heap.size w w'
set_option maxHeartbeats 1000000 in
theorem apply_no (w : World) (b0 xb n : Nat) (lv : Value) (es : List Int) (at_ : Int) (del ins : List UInt8) (h : IdxAt w b0 xb lv n es) (hn : n ≤ 4294967295) (hd : del.length ≤ 4294967295)
    (hno : at_ < 0 ∨ (n : Int) < at_ ∨ (n : Int) - at_ < del.length) : Calls Try.prog 47 #[.pointer (some ⟨xb, 0, none⟩), Edit at_ del ins] w (ApplyNo w) := by
  have c0 := h.c0
  have hlt := h.lt
  haveI : Old w xb := ⟨hlt⟩
  clear h
  unfold Edit
  by_cases h1 : at_ < 0
  · clear hno
    go_enter Try.func47, Try.ntmps47
    go_wp2
    (refine wp_region_grow (by kernel_rfl) (by kernel_rfl) ?_; (repeat (go_big_quiet_step (fail))); refine wpQuiet_nil ?_; intro _ hw'; obtain ⟨gq, hw''⟩ := hw'; subst hw'')
    go_wp2
    go_ret
    exact ⟨rfl, by (repeat (first | exact Below.refl _ _ | assumption | with_reducible refine below_alloc ?_ _ | with_reducible refine below_grow ?_ _ | with_reducible refine below_drewN ?_ _ | with_reducible refine below_drew ?_ | with_reducible refine below_setCell ?_ (by first | (dsimp only; omega) | (simp; done) | (simp; omega)) _))⟩
  by_cases h2 : (n : Int) < at_
  · clear hno
    have h1' := no h1
    go_enter Try.func47, Try.ntmps47
    go_wp2
    (refine wp_region_grow (by kernel_rfl) (by kernel_rfl) ?_; (repeat (go_big_quiet_step (fail))); refine wpQuiet_nil ?_; intro _ hw'; obtain ⟨gq, hw''⟩ := hw'; subst hw'')
    go_wp2
    go_ret
    exact ⟨rfl, by (repeat (first | exact Below.refl _ _ | assumption | with_reducible refine below_alloc ?_ _ | with_reducible refine below_grow ?_ _ | with_reducible refine below_drewN ?_ _ | with_reducible refine below_drew ?_ | with_reducible refine below_setCell ?_ (by first | (dsimp only; omega) | (simp; done) | (simp; omega)) _))⟩
  have h3 : (n : Int) - at_ < del.length := by omega
  have h1' := no h1
  have h2' := no h2
  have h4 : 0 ≤ at_ := by omega
  have h5 : at_ ≤ 4294967295 := by omega
  have wz : IntKind.i64.wrap ((n : Int) - at_) = (n : Int) - at_ := IntWalk.i64_in _ (by omega)
  clear hno
  go_enter Try.func47, Try.ntmps47
  go_wp2
  (refine wp_region_grow (by kernel_rfl) (by kernel_rfl) ?_; (repeat (go_big_quiet_step (fail))); refine wpQuiet_nil ?_; intro _ hw'; obtain ⟨gq, hw''⟩ := hw'; subst hw'')
  go_wp2
  go_ret
  exact ⟨rfl, by (repeat (first | exact Below.refl _ _ | assumption | with_reducible refine below_alloc ?_ _ | with_reducible refine below_grow ?_ _ | with_reducible refine below_drewN ?_ _ | with_reducible refine below_drew ?_ | with_reducible refine below_setCell ?_ (by first | (dsimp only; omega) | (simp; done) | (simp; omega)) _))⟩
/-- Numbers, each moved on. -/
def moved (d : Int) (es : List Int) : List Int := es.map (· + d)
theorem moved_snoc (d : Int) (es : List Int) (k : Nat) (x : Int) (h : es[k]? = some x) : moved d (es.take (k + 1)) = moved d (es.take k) ++ [x + d] := by
  unfold moved; rw [take_snoc h, List.map_append]; rfl
structure ApplyYes (b0 xb : Nat) (lv : Value) (t : List UInt8) (w : World) (e : Ending) (w' : World) : Prop where
  e : e = .returned (.int .i64 0)
  h : ∃ lv', IdxAt w' b0 xb lv' t.length (nls t 0)
  k : Keeps (fun k => k = xb) w w'
/-- What a round of a loop over an iterator owes, where it appends to the slice in its box (the iterator's blocks lie anywhere). -/
theorem BoxOwn.round2 {w W w1 : World} {o : Obj} {A b0 B sz n m : Nat} {v v' : Value} {xs ys : List Value} {G : Nat → Prop} (h : BoxOwn W b0 B sz v n xs) (hsz : 0 < sz) (hv : n = 0 → ∀ k, v.ownBlock = some k → k < A) (hb : Below b0 w W) (hw : b0 ≤ w.heap.size) (hB : b0 ≤ B) (hA : B < A) (hAW : A ≤ W.heap.size)
    (hG : ∀ k, G k → k < A ∧ k ≠ B ∧ v.ownBlock ≠ some k) (ho : Own w1 b0 sz v' m ys) (hk : Keeps (fun k => v.ownBlock = some k ∧ b0 ≤ k) (W.alloc o) w1) (hat : v'.ownBlock = v.ownBlock ∨ ∀ k, v'.ownBlock = some k → (W.alloc o).heap.size ≤ k) :
    KeepsFrom A W (w1.setCell ⟨B, 0, none⟩ v') ∧ KeepG G W (w1.setCell ⟨B, 0, none⟩ v') ∧ BoxOwn (w1.setCell ⟨B, 0, none⟩ v') b0 B sz v' m ys ∧ Below b0 w (w1.setCell ⟨B, 0, none⟩ v') ∧ w1.cell? ⟨B, 0, none⟩ = some v ∧ w1.frozen? ⟨B, 0, none⟩ = false ∧ (∀ k, G k → v'.ownBlock ≠ some k) := by
  have hal : Below W.heap.size W (W.alloc o) := below_alloc (Below.refl _ _) o
  obtain ⟨h1, h2, h3, h4⟩ := (h.below hal).store ho hk hat
  have hK := (Keeps.of_below (F := fun k => k = B ∨ (v.ownBlock = some k ∧ b0 ≤ k)) hal).trans h4
  have hs := hb.size
  refine ⟨KeepsFrom.of_keeps hK fun k hF hlt hAk => ?_, KeepG.of_keeps hK (fun k hk => ?_) (fun k hk hF => ?_), h1, hb.trans (hK.below (by omega) fun k hF => ?_), h2, h3, fun k hk => ?_⟩
  · rcases hF with e | ⟨e, _⟩
    · omega
    · rcases Nat.eq_zero_or_pos n with hn | hn
      · have := hv hn k e; omega
      · exact h.own.isCells hn hsz e
  · have := (hG k hk).1; omega
  · have := hG k hk
    rcases hF with e | e
    · exact this.2.1 e
    · exact this.2.2 e.1
  · rcases hF with e | e
    · omega
    · exact e.2
  · rcases hat with e | e
    · rw [e]; exact (hG k hk).2.2
    · intro e2
      have := e k e2
      have := (hG k hk).1
      simp at *
      omega
theorem IdxAt.lull {A : Nat} {w w' : World} {b0 xb n : Nat} {lv : Value} {es : List Int} (h : IdxAt w b0 xb lv n es) (hk : Lull A w w') : IdxAt w' b0 xb lv n es :=
  ⟨Nat.lt_of_lt_of_le h.lt hk.size, h.ge, hk.cell h.c0, hk.cell h.c1, fun j => (hk.frozen h.c0).trans (h.f0 j), h.own.lull hk, h.ne, h.up, h.lo⟩
theorem apply_fin {w wr : World} {b0 xb n D : Nat} {lv v : Value} {es ys : List Int} {t : List UInt8} {d : Int} (hx : IdxAt w b0 xb lv n es) (hb : Below w.heap.size w wr) (ho : Own wr w.heap.size 1 v ys.length (ys.flatMap intC)) (ht : (n : Int) + d = t.length) (hys : ys = nls t 0)
    (hD : wr.heap[D]? = some (.deferred (some []))) (hDw : w.heap.size ≤ D) (hne : v.ownBlock ≠ some xb) :
    (((wr.setCell ⟨xb, 1, none⟩ v).setCell ⟨xb, 0, none⟩ (.int .i64 ((n : Int) + d))).drew).heap[D]? = some (.deferred (some [])) ∧
    IdxAt ((((wr.setCell ⟨xb, 1, none⟩ v).setCell ⟨xb, 0, none⟩ (.int .i64 ((n : Int) + d))).drew).putObj D (.deferred none)) b0 xb v t.length (nls t 0) ∧
    Keeps (fun k => k = xb) w ((((wr.setCell ⟨xb, 1, none⟩ v).setCell ⟨xb, 0, none⟩ (.int .i64 ((n : Int) + d))).drew).putObj D (.deferred none)) := by
  subst hys
  have hk1 : Keeps (fun k => k = xb) wr (wr.setCell ⟨xb, 1, none⟩ v) := Keeps.setCell (F := fun k => k = xb) wr (a := ⟨xb, 1, none⟩) rfl _
  have hk2 : Keeps (fun k => k = xb) (wr.setCell ⟨xb, 1, none⟩ v) ((wr.setCell ⟨xb, 1, none⟩ v).setCell ⟨xb, 0, none⟩ (.int .i64 ((n : Int) + d))) := Keeps.setCell (F := fun k => k = xb) _ (a := ⟨xb, 0, none⟩) rfl _
  have hx' := hx.below hb
  have hlt := hx.lt
  have hs := hb.size
  have hI : IdxAt ((wr.setCell ⟨xb, 1, none⟩ v).setCell ⟨xb, 0, none⟩ (.int .i64 ((n : Int) + d))) b0 xb v t.length (nls t 0) := by
    refine ⟨by simp [World.setCell]; omega, hx.ge, ?_, ?_, fun j => ?_, ?_, hne, nls_up t 0, fun e he => ?_⟩
    · rw [ht]
      refine World.cell?_setCell_same' _ _ _ ?_
      rw [World.cell?_setCell_other _ _ _ _ (by simp)]
      rw [hx'.c0]; rfl
    · rw [World.cell?_setCell_other _ _ _ _ (by simp)]
      exact World.cell?_setCell_same' _ _ _ (by rw [hx'.c1]; rfl)
    · rw [World.frozen?_setCell, World.frozen?_setCell]; exact hx'.f0 j
    · exact ((ho.mono (by have := hx.ge; omega)).keeps hk1 (fun k hk _ e => hne (by rw [hk, e]))).keeps hk2 (fun k hk _ e => hne (by rw [hk, e]))
    · have := nls_bd t 0 e he; omega
  have hD3 : (((wr.setCell ⟨xb, 1, none⟩ v).setCell ⟨xb, 0, none⟩ (.int .i64 ((n : Int) + d))).drew).heap[D]? = some (.deferred (some [])) :=
    ((hk1.trans hk2).block D (Array.getElem?_eq_some_iff.1 hD).1 (fun e => by omega)).trans hD
  have hL : Lull w.heap.size (((wr.setCell ⟨xb, 1, none⟩ v).setCell ⟨xb, 0, none⟩ (.int .i64 ((n : Int) + d))).drew) ((((wr.setCell ⟨xb, 1, none⟩ v).setCell ⟨xb, 0, none⟩ (.int .i64 ((n : Int) + d))).drew).putObj D (.deferred none)) :=
    Lull.of_grown (grownBy_putObj' _ D _) (fun r e => by cases e; exact ⟨hDw, _, hD3, rfl⟩)
  have hK := (Keeps.of_below (F := fun k => k = xb) hb).trans (hk1.trans hk2)
  refine ⟨hD3, (hI.below (below_drew (Below.refl _ _))).lull hL, hL.os.trans hK.os, ?_, hL.output.trans hK.output, Nat.le_trans hK.size hL.size, fun k hk hf => (hL.low k (Nat.lt_of_lt_of_le hk hK.size) hk).trans (hK.block k hk hf), fun k hk => (tyOf_of_block (hL.low k (Nat.lt_of_lt_of_le hk hK.size) hk)).trans (hK.ty k hk)⟩
  exact hL.tape.trans hK.tape
set_option maxHeartbeats 2000000 in
theorem apply_yes (w : World) (b0 xb : Nat) (lv : Value) (s : List UInt8) (p : Nat) (del ins : List UInt8) (h : IdxAt w b0 xb lv s.length (nls s 0)) (hs : s.length ≤ 2147483647) (hi : ins.length ≤ 2147483647) (hp : p + del.length ≤ s.length)
    (hd : (s.drop p).take del.length = del) : Calls Try.prog 47 #[.pointer (some ⟨xb, 0, none⟩), Edit p del ins] w (ApplyYes b0 xb lv (s.take p ++ ins ++ s.drop (p + del.length)) w) := by
  have c0 := h.c0
  have c1 := h.c1
  have hlt := h.lt
  haveI : Old w xb := ⟨hlt⟩
  have H := Lib.hid h
  have h1' := no (show ¬ (p : Int) < 0 by omega)
  have h2' := no (show ¬ s.length < p by omega)
  have wz : IntKind.i64.wrap ((s.length : Int) - p) = (s.length : Int) - p := IntWalk.i64_in _ (by omega)
  have wz2 : IntKind.i64.wrap ((p : Int) + del.length) = (p : Int) + del.length := IntWalk.i64_in _ (by omega)
  have h3' := no (show ¬ (s.length : Int) - p < del.length by omega)
  have hbt := nls_between s del p hp hd
  have hle : (nls s 0).length ≤ s.length := nls_len s 0
  have HA := Lib.hid fun w (h : IdxAt w b0 xb lv s.length (nls s 0)) t => ahead_any w b0 xb s.length lv (nls s 0) t h (by omega)
  have hHE := nls_edit s del ins p hp
  have hba := cntLt_le (nls s 0) p
  have hbb := cntLt_le (nls s 0) ((p : Int) + del.length)
  rw [show ((p + del.length : Nat) : Int) = (p : Int) + del.length by omega] at hbt hHE
  have hHE := Lib.hid hHE
  clear h
  obtain ⟨q, hq⟩ : ∃ q : Nat, q = (nls del 0).length := ⟨_, rfl⟩
  have HC := Lib.hid fun w => show Calls Try.prog 81 #[.string (B del), .string ⟨#[10]⟩] w fun e w' => e = .returned (.int .i64 (q : Int)) ∧ w = w' from by rw [hq]; exact countNl_any del w
  rw [← hq] at hbt
  have hbq : (((cntLt (nls s 0) ((p : Int) + del.length) : Nat) : Int) - ((cntLt (nls s 0) p : Nat) : Int) != (q : Int)) = false := by rw [bne_eq_false_iff_eq]; exact hbt
  clear hq hbt
  generalize hes : nls s 0 = es at *
  clear hes
  obtain ⟨Al, cl, rfl, hcl, -, -, hAl⟩ := (H.out.own.sl intC_len rfl : Sl w intC 1 lv es)
  have HAl := Lib.hid hAl
  have HNE0 : Hid (∀ n, (Value.slice Al n cl).ownBlock ≠ some xb) := fun n => by
    have := H.out.ne
    cases Al with
    | none => simp [Value.ownBlock]
    | some a => simpa [Value.ownBlock] using this
  have hlo := Lib.hid H.out.lo
  clear hAl
  unfold Edit
  refine (callsIn_wide (n := 9)).1 ?_; refine callsIn_of_wp_marks Try.func47 rfl trivial ?_ rfl; simp only [Try.ntmps47, List.size_toArray, List.length_cons, List.length_nil, Nat.reduceAdd, Nat.reduceSub, Array.replicate_succ, Array.replicate_zero, List.push_toArray, List.append_toArray, List.nil_append, List.cons_append]
  refine wpIn_wide.2 ?_
  go_wp2
  (refine wp_region_grow (by kernel_rfl) (by kernel_rfl) ?_; (repeat (go_big_quiet_step (fail))); refine wpQuiet_nil ?_; intro _ hw'; obtain ⟨gq, hw''⟩ := hw'; subst hw'')
  go_wp2
  (refine wp_region_grow (by kernel_rfl) (by kernel_rfl) ?_; (repeat (go_big_quiet_step ((go_at_call 80; exact grow_same (HA.out _ (H.out.below (by (repeat (first | exact Below.refl _ _ | assumption | with_reducible refine below_alloc ?_ _ | with_reducible refine below_grow ?_ _ | with_reducible refine below_drewN ?_ _ | with_reducible refine below_drew ?_ | with_reducible refine below_setCell ?_ (by first | (dsimp only; omega) | (simp; done) | (simp; omega)) _)))) _))))); refine wpQuiet_nil ?_; intro _ hw'; obtain ⟨gq, hw''⟩ := hw'; subst hw'')
  generalize cntLt es (p : Int) = a at *
  generalize cntLt es ((p : Int) + del.length) = b at *
  have Hlen0 : Hid ((es.take a).length = a) := by show _ = _; rw [List.length_take]; omega
  go_wp2_with (first
    | (go_at_call 81; refine (HC.out _).mono ?_; rintro e w' ⟨rfl, rfl⟩)
    | (go_at_call 82; refine (clone_int (es.take a) _ _ ((H.out.own.preI rfl a hba).below (by (repeat (first | exact Below.refl _ _ | assumption | with_reducible refine below_alloc ?_ _ | with_reducible refine below_grow ?_ _ | with_reducible refine below_drewN ?_ _ | with_reducible refine below_drew ?_ | with_reducible refine below_setCell ?_ (by first | (dsimp only; omega) | (simp; done) | (simp; omega)) _)))) (by rw [List.length_take]; omega)).mono ?_; rintro e w2 ⟨v2, rfl, ho2, hb2, hj2⟩; rw [Hlen0.out] at ho2; obtain ⟨A2, c2, rfl, _⟩ := ho2.form0; have hnx : (Value.slice A2 a c2).ownBlock ≠ some xb := (by rcases hj2 with e | e; (rw [e]; exact HNE0.out a); (intro e2; exact absurd (e _ e2) (Nat.not_le.2 (old_lt _ xb)))); have HNX := Lib.hid hnx; clear hnx hj2; have E0 := (hb2.cell (p := ⟨w.heap.size, 0, none⟩) (old_lt _ _)).trans (show _ = some (Value.int .i64 (p : Int)) by go_simp); have E2 := (hb2.cell (p := ⟨w.heap.size, 2, none⟩) (old_lt _ _)).trans (show _ = some (Value.string (B ins)) by go_simp); have hlt2 : w.heap.size < w2.heap.size := Nat.lt_of_lt_of_le (old_lt _ _) hb2.size; haveI : Old w2 w.heap.size := ⟨hlt2⟩; have HO2 := Lib.hid (ho2.mono (b1 := w.heap.size) (Nat.le_of_lt (old_lt _ _))); have HB2 := Lib.hid (below_then (w := w) (by (repeat (first | exact Below.refl _ _ | assumption | with_reducible refine below_alloc ?_ _ | with_reducible refine below_grow ?_ _ | with_reducible refine below_drewN ?_ _ | with_reducible refine below_drew ?_ | with_reducible refine below_setCell ?_ (by first | (dsimp only; omega) | (simp; done) | (simp; omega)) _))) hb2); have hz2 := HB2.out.size; clear ho2 hb2)
    | (go_at_call 76; refine (newlines_any ins p _).mono ?_; rintro e w3 ⟨rfl, rfl⟩))
  obtain ⟨w3, hw3⟩ : ∃ w3, w3 = ((w2.alloc (.cells #[.slice A2 a c2] 129)).alloc (.cells #[.string (B ins)] 9)).alloc (.cells #[.int .i64 (p : Int)] 3) := ⟨_, rfl⟩
  have hsz3 : w3.heap.size = w2.heap.size + 3 := by rw [hw3]; simp
  have HGi : Hid (Gives Try.prog 97 #[.pointer (some ⟨w2.heap.size + 1, 0, none⟩), .pointer (some ⟨w2.heap.size + 1 + 1, 0, none⟩)] encI (fun k => k = w2.heap.size + 1 ∨ k = w2.heap.size + 1 + 1) (nls ins p) w3) := by
    have := newlines_gives ins p (w2.alloc (.cells #[.slice A2 a c2] 129)) (by omega) (by omega) (by omega)
    simp only [World.size_alloc] at this
    rw [hw3]; exact this
  have hnc : ∀ k, (Value.slice A2 a c2).ownBlock = some k → k < w2.heap.size := HO2.out.lt
  have HBO : Hid (BoxOwn w3 w.heap.size w2.heap.size 1 (.slice A2 a c2) (es.take a).length ((es.take a).flatMap intC)) := by
    rw [hw3, Hlen0.out]
    refine ⟨by simp; omega, by go_simp, by simp [go_sem], ?_, ?_⟩
    · exact HO2.out.below (below_alloc (below_alloc (below_alloc (Below.refl _ _) _) _) _)
    · intro e; have := hnc _ e; omega
  have HB3 : Hid (Below w.heap.size w w3) := by rw [hw3]; exact below_alloc (below_alloc (below_alloc HB2.out _) _) _
  rw [← hw3]
  refine (wpIn_wide (n := 9)).1 ?_
  refine wpIn_iter1 (n := 9) 75 9 (fun x : Int => .int .i64 x) (by omega) rfl (enters_of Try.func97 (by kernel_rfl) rfl) HGi.out (fun k hk => by rcases hk with rfl | rfl <;> omega)
    (fun pre W => ∃ v, BoxOwn W w.heap.size w2.heap.size 1 v (es.take a ++ pre).length ((es.take a ++ pre).flatMap intC) ∧ ((es.take a ++ pre).length = 0 → ∀ k, v.ownBlock = some k → k < w3.heap.size) ∧ (∀ k, k = w2.heap.size + 1 ∨ k = w2.heap.size + 1 + 1 ∨ k = xb → v.ownBlock ≠ some k) ∧ Below w.heap.size w W)
    (fun _ _ _ => False) ?hI (fun _ _ _ _ _ h => h) ?h0 ?assign ?body ?done ?stop
  case hI => exact fun s W W' hL ⟨v, h1, h2, h3, h4⟩ => ⟨v, h1.lull hL, h2, h3, hL.below h4 (by omega) (Nat.le_refl _)⟩
  case h0 => exact ⟨_, by rw [List.append_nil]; exact HBO.out, fun _ k hk => by have := hnc k hk; omega, fun k hk e => by
    rcases hk with rfl | rfl | rfl
    · have := hnc _ e; omega
    · have := hnc _ e; omega
    · exact HNX.out e, HB3.out⟩
  case assign =>
    intro l x W K hK
    gi_wp2
    exact hK
  case body =>
    rintro l pre x W hs1 ⟨v, g1, g2, g3, g4⟩ hpl
    have hc := g1.c
    have G1 := Lib.hid g1
    have G2 := Lib.hid g2
    have G3 := Lib.hid g3
    have G4 := Lib.hid g4
    have hz5 := g4.size
    clear g1 g2 g3 g4
    obtain ⟨i0, hi0, hz00, hz01, hz02⟩ := info_parts info_int
    have hm0 : (es.take a ++ pre).length ≤ 8589934592 := by rw [List.length_append, Hlen0.out]; have := nls_len ins p; omega
    have HM := Lib.hid hm0
    generalize hzs : es.take a ++ pre = zs at *
    have HZS := Lib.hid hzs
    clear hzs
    gi_wp2_with ((gi_at_builtin; refine wpListIn_append_src rfl (.tmp 76) (.tmp 78) _ rfl w.heap.size 3 i0 _ 1 8 Try.underlying129 hi0 hz00 hz01 hz02 rfl (by decide) _ zs.length (zs.flatMap intC) rfl (G1.out.own.below (by (repeat (first | exact Below.refl _ _ | assumption | with_reducible refine below_alloc ?_ _ | with_reducible refine below_grow ?_ _ | with_reducible refine below_drewN ?_ _ | with_reducible refine below_drew ?_ | with_reducible refine below_setCell ?_ (by first | (dsimp only; omega) | (simp; done) | (simp; omega)) _)))) _ 1 [.int .i64 x] rfl rfl (Src.one _ _ _ _) (by simp [Value.oneCell']) (by unfold maxLen; omega) (by omega) (by first | (simp; done) | omega | (simp; omega)) ?_; intro v1 w1 hown1 hg1 hat1 hty1; have HTY1 := Lib.hid hty1; clear hty1); obtain ⟨g1, o1, c1, rfl, q1, q2, q3, q4⟩ := hown1.form; obtain ⟨r1, r2, r3, r4, r5, r6, r7⟩ := G1.out.round2 (A := w3.heap.size) (G := fun k => k = w2.heap.size + 1 ∨ k = w2.heap.size + 1 + 1 ∨ k = xb) (by omega) G2.out G4.out (Nat.le_refl _) (by omega) (by omega) hs1 (fun k hk => ⟨by omega, by omega, G3.out k hk⟩) hown1 hg1 hat1; have R := Lib.hid (And.intro r1 (And.intro r2 (And.intro r3 (And.intro r4 r7)))); clear hown1 hg1 hat1 r1 r2 r3 r4 r7)
    exact ⟨R.out.1, fun k hk => R.out.2.1 k (by omega), _, by rw [← List.append_assoc, HZS.out]; simpa [intC] using R.out.2.2.1, fun h => by rw [← List.append_assoc, HZS.out] at h; simp at h, R.out.2.2.2.2, R.out.2.2.2.1⟩
  case done =>
    rintro D W hD ⟨v, g1, g2, g3, g4⟩ hK
    have hc := g1.c
    obtain ⟨zs, hzs⟩ : ∃ zs, zs = es.take a ++ nls ins p := ⟨_, rfl⟩
    rw [← hzs] at g1 g2
    have hm0 : zs.length ≤ 8589934592 := by rw [hzs, List.length_append, Hlen0.out]; have := nls_len ins p; omega
    have HZS := Lib.hid hzs
    have G1 := Lib.hid g1
    have G2 := Lib.hid g2
    have G4 := Lib.hid g4
    have HK := Lib.hid hK
    have hcx := (g4.cell (p := ⟨xb, 1, none⟩) hlt).trans H.out.c1
    have hTL : (s.length : Int) + ((ins.length : Int) - del.length) = (s.take p ++ ins ++ s.drop (p + del.length)).length := by simp only [List.length_append, List.length_take, List.length_drop]; omega
    have HTL := Lib.hid hTL
    clear hTL
    have hnx := g3 xb (.inr (.inr rfl))
    have HNV := Lib.hid hnx
    clear g1 g2 g3 g4 hK hzs HBO HGi HB3 HO2 hnx
    obtain ⟨i0, hi0, hz00, hz01, hz02⟩ := info_parts info_int
    by_cases hbe : b < es.length
    · obtain ⟨g, off, rfl, hg, hgc⟩ := HAl.out (by omega)
      have HGC := Lib.hid hgc
      have hbc : b < cl := by omega
      have hbc2 : (b : Int) < (cl : Int) := by omega
      have hbe2 : (b : Int) ≤ (es.length : Int) := by omega
      clear hgc
      go_wp2
      go_loopw [87] (fun i wr => ∃ (k : Nat) (v : Value) (ys : List Int), k ≤ es.length - b ∧ i = .int .i64 k ∧ ys.length ≤ zs.length + k ∧ Hid (ys = zs ++ moved ((ins.length : Int) - del.length) ((es.drop b).take k)) ∧ Hid (BoxOwn wr w.heap.size w2.heap.size 1 v ys.length (ys.flatMap intC)) ∧
        Hid (ys.length = 0 → ∀ k, v.ownBlock = some k → k < w3.heap.size) ∧ Hid (Below w.heap.size w wr) ∧ Hid (wr.heap[D]? = some (.deferred (some []))) ∧ Hid (v.ownBlock ≠ some xb)) (fun i _ => es.length - b - (intOf i).toNat)
      case atStart => exact ⟨0, v, zs, by omega, rfl, by omega, (by show _ = _; simp [moved]), G1.out, G2.out, G4.out, HK.out, HNV.out⟩
      case round =>
        clear G1 G2 G4 HK HNV
        obtain ⟨k, v, ys, hk, rfl, hyl, HY, G1, G2, G4, HK, HNV⟩ := hrel
        have hc := G1.out.c
        have hz5 := G4.out.size
        have hDl : D < wr.heap.size := (Array.getElem?_eq_some_iff.1 HK.out).1
        by_cases hlt2 : k < es.length - b
        · obtain ⟨x, hx⟩ := get_some (xs := es) (k := b + k) (by omega)
          have e0 : wr.cell? ⟨g, off + b + k, none⟩ = some (.int .i64 x) := by
            have := HGC.out (b + k) x hx 0 _ rfl
            rw [Nat.mul_one, Nat.add_zero, ← Nat.add_assoc] at this
            exact (G4.out.cell (p := ⟨g, off + b + k, none⟩) hg).trans this
          have hxb := hlo.out x (List.mem_of_getElem? hx)
          have hsn := moved_snoc ((ins.length : Int) - del.length) (es.drop b) k x (by rw [List.getElem?_drop]; exact hx)
          have HSN := Lib.hid hsn
          clear hx hsn
          go_wp2_with ((at_builtin; refine wpList_append_src _ rfl (.tmp 91) (.tmp 95) _ rfl w.heap.size 3 i0 _ 1 8 Try.underlying129 hi0 hz00 hz01 hz02 rfl (by decide) _ ys.length (ys.flatMap intC) rfl (G1.out.own.below (by (repeat (first | exact Below.refl _ _ | assumption | with_reducible refine below_alloc ?_ _ | with_reducible refine below_grow ?_ _ | with_reducible refine below_drewN ?_ _ | with_reducible refine below_drew ?_ | with_reducible refine below_setCell ?_ (by first | (dsimp only; omega) | (simp; done) | (simp; omega)) _)))) _ 1 [.int .i64 (x + ((ins.length : Int) - del.length))] rfl rfl (Src.one _ _ _ _) (by simp [Value.oneCell']) (by unfold maxLen; omega) (by omega) (by first | (simp; done) | omega | (simp; omega)) ?_; intro v1 w1 hown1 hg1 hat1 hty1; have HTY1 := Lib.hid hty1; clear hty1); obtain ⟨g1, o1, c1', rfl, q1, q2, q3, q4⟩ := hown1.form; obtain ⟨r1, r2, r3, r4, r5, r6, r7⟩ := G1.out.round2 (A := w3.heap.size) (G := fun k => k = xb) (by omega) G2.out G4.out (Nat.le_refl _) (by omega) (by omega) (by omega) (fun k hk => ⟨by omega, by omega, by rw [hk]; exact HNV.out⟩) hown1 hg1 hat1; have R := Lib.hid (And.intro r1 (And.intro r3 (And.intro r4 r7))); clear hown1 hg1 hat1 r1 r2 r3 r4 r7)
          go_roundw
          case rel => exact ⟨k + 1, _, ys ++ [x + ((ins.length : Int) - del.length)], by omega, by go_num, by simp; omega, (by show _ = _; rw [HSN.out, ← List.append_assoc, ← HY.out]), (by show BoxOwn _ _ _ _ _ _ _; simpa [intC] using R.out.2.1), (fun h => by simp at h), R.out.2.2.1, R.out.1.same D _ (by omega) HK.out rfl, R.out.2.2.2 _ rfl⟩
          case measure => simp [intOf]; omega
        · have hYS : ys = nls (s.take p ++ ins ++ s.drop (p + del.length)) 0 := by
            rw [hHE.out, HY.out, HZS.out, List.take_of_length_le (l := es.drop b) (by rw [List.length_drop]; omega)]; rfl
          have HYS := Lib.hid hYS
          clear hYS
          have hcx0 := (G4.out.cell (p := ⟨xb, 0, none⟩) hlt).trans c0
          have hcx1 := (G4.out.cell (p := ⟨xb, 1, none⟩) hlt).trans c1
          have hfx := (G4.out.frozen (p := ⟨xb, 1, none⟩) hlt).trans (H.out.f0 1)
          have hfx0 := (G4.out.frozen (p := ⟨xb, 0, none⟩) hlt).trans (H.out.f0 0)
          obtain ⟨Av, cv, rfl, -⟩ := G1.out.own.form0
          have HF := Lib.hid (apply_fin (D := D) H.out G4.out G1.out.own HTL.out HYS.out HK.out (by omega) HNV.out)
          go_wp2
          have wz3 : IntKind.i64.wrap ((s.length : Int) + ((ins.length : Int) - del.length)) = (s.length : Int) + ((ins.length : Int) - del.length) := IntWalk.i64_in _ (by omega)
          go_region
          go_wp2
          refine ⟨by simp, .inl ⟨_, _, rfl, run_takeDeferred HF.out.1, ?_⟩⟩
          exact ⟨_, results_tmp rfl _ _ _, ⟨rfl, ⟨_, HF.out.2.1⟩, HF.out.2.2⟩⟩
    · have hbl : b = es.length := by omega
      subst hbl
      have hYS : zs = nls (s.take p ++ ins ++ s.drop (p + del.length)) 0 := by
        rw [hHE.out, HZS.out, List.drop_length]; simp
      have HYS := Lib.hid hYS
      clear hYS hbe
      go_wp2
      all_goals
        go_loopw [87] (fun i wr => i = .int .i64 0 ∧ ∃ v, Hid (BoxOwn wr w.heap.size w2.heap.size 1 v zs.length (zs.flatMap intC)) ∧ Hid (Below w.heap.size w wr) ∧ Hid (wr.heap[D]? = some (.deferred (some []))) ∧ Hid (v.ownBlock ≠ some xb)) (fun _ _ => 0)
        case atStart => exact ⟨rfl, v, G1.out, G4.out, HK.out, HNV.out⟩
        case round =>
          clear G1 G2 G4 HK HNV
          obtain ⟨rfl, v, G1, G4, HK, HNV⟩ := hrel
          have hc := G1.out.c
          have hcx0 := (G4.out.cell (p := ⟨xb, 0, none⟩) hlt).trans c0
          have hcx1 := (G4.out.cell (p := ⟨xb, 1, none⟩) hlt).trans c1
          have hfx := (G4.out.frozen (p := ⟨xb, 1, none⟩) hlt).trans (H.out.f0 1)
          have hfx0 := (G4.out.frozen (p := ⟨xb, 0, none⟩) hlt).trans (H.out.f0 0)
          obtain ⟨Av, cv, rfl, -⟩ := G1.out.own.form0
          have HF := Lib.hid (apply_fin (D := D) H.out G4.out G1.out.own HTL.out HYS.out HK.out (by omega) HNV.out)
          go_wp2
          have wz3 : IntKind.i64.wrap ((s.length : Int) + ((ins.length : Int) - del.length)) = (s.length : Int) + ((ins.length : Int) - del.length) := IntWalk.i64_in _ (by omega)
          go_region
          go_wp2
          refine ⟨by simp, .inl ⟨_, _, rfl, run_takeDeferred HF.out.1, ?_⟩⟩
          exact ⟨_, results_tmp rfl _ _ _, ⟨rfl, ⟨_, HF.out.2.1⟩, HF.out.2.2⟩⟩
  case stop =>
    rintro D c pre W _ _ h _
    exact h.elim
end Go.Proofs.Ytkinjjgaecbogaa
