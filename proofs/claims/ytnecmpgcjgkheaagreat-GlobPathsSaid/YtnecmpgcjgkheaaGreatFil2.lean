/-
  The walks of layer 18 (files), the paths, on: IsPath. Conditions: texts of at most 2^30 bytes; the library's variable MaxLen holds some number.
-/
import Derived.Test.YtnecmpgcjgkheaaGreatFil1
set_option linter.unusedSimpArgs false
set_option linter.unusedVariables false
namespace Go.Proofs.YtnecmpgcjgkheaaGreat.Fil
open Go.ChangeShapes Go.WideShapes Go.Deep Go.RowKit Go.Shelf Pat
attribute [local go_sem] Oper.semAt_some
set_option maxRecDepth 100000
theorem pre47 (s : List UInt8) : Lib.hasPrefix s [47] = (s.head? == some 47) := by
  unfold Lib.hasPrefix
  cases s with
  | nil => rfl
  | cons c r => simp [List.isPrefixOf, Bool.beq_comm]
theorem prefix_b (s p : List UInt8) (w : World) : Calls Tryz.prog 42 #[.string (B s), .string (B p)] w fun e w' => e = .returned (.bool (Lib.hasPrefix s p)) ∧ w = w' :=
  (Tryz.strings_HasPrefix (B s) (B p) w).mono fun e w' ⟨he, hw⟩ => ⟨by rw [he, B_data, B_data], hw.symm⟩
/-- What holds at each round of IsPath. -/
structure PathI (w : World) (pre : List (List UInt8)) (W : World) : Prop where
  r : ∃ v, W.cell? ⟨w.heap.size, 0, none⟩ = some v
  z : W.frozen? ⟨w.heap.size, 0, none⟩ = false
  a : ∀ x ∈ pre, nameB x = true
  b : Below w.heap.size w W
  s : w.heap.size + 2 ≤ W.heap.size
structure PathX (w : World) (pre : List (List UInt8)) (W : World) : Prop where
  r : W.cell? ⟨w.heap.size, 0, none⟩ = some (.bool false)
  x : ∃ x ∈ pre, nameB x = false
  b : Below w.heap.size w W
  s : w.heap.size + 2 ≤ W.heap.size
theorem PathI.lull {w W W' : World} {A : Nat} {pre : List (List UInt8)} (h : PathI w pre W) (hL : Lull A W W') (hA : w.heap.size ≤ A) : PathI w pre W' := by
  obtain ⟨v, hv⟩ := h.r
  exact ⟨⟨v, hL.cell hv⟩, (hL.frozen hv).trans h.z, h.a, hL.below h.b hA (Nat.le_refl _), Nat.le_trans h.s hL.size⟩
theorem PathX.lull {w W W' : World} {A : Nat} {pre : List (List UInt8)} (h : PathX w pre W) (hL : Lull A W W') (hA : w.heap.size ≤ A) : PathX w pre W' :=
  ⟨hL.cell h.r, h.x, hL.below h.b hA (Nat.le_refl _), Nat.le_trans h.s hL.size⟩
theorem PathI.keeps {w W W' : World} {b : Nat} {pre : List (List UInt8)} (h : PathI w pre W) (hk : Keeps (fun k => k = b) W W') (hb : w.heap.size < b) : PathI w pre W' := by
  obtain ⟨v, hv⟩ := h.r
  have hlt := World.block_lt_of_cell? W _ hv
  have hh := hk.block w.heap.size hlt (by omega)
  exact ⟨⟨v, (World.cell?_of_block (w := W) hh).trans hv⟩, (World.frozen?_of_block (w := W) hh).trans h.z, h.a, below_keeps h.b hk (fun k e => by omega), Nat.le_trans h.s hk.size⟩
theorem PathX.keeps {w W W' : World} {b : Nat} {pre : List (List UInt8)} (h : PathX w pre W) (hk : Keeps (fun k => k = b) W W') (hb : w.heap.size < b) : PathX w pre W' := by
  have hlt := World.block_lt_of_cell? W _ h.r
  have hh := hk.block w.heap.size hlt (by omega)
  exact ⟨(World.cell?_of_block (w := W) hh).trans h.r, h.x, below_keeps h.b hk (fun k e => by omega), Nat.le_trans h.s hk.size⟩
set_option maxHeartbeats 3200000 in
theorem isPath_any (s : List UInt8) (w : World) (hm : MaxL w) (hs : s.length ≤ 1073741824) : Calls Tryz.prog 24 #[.string (B s)] w fun e w' => e = .returned (.bool (pathB s)) ∧ Below w.heap.size w w' := by
  have HPX := Lib.hid fun w => prefix_b s [47] w
  rw [pre47] at HPX
  by_cases n1 : s = [47]
  · subst n1
    go_enter Tryz.func24, Tryz.ntmps24
    go_wp2
    refine bodyPost_ret (v := (.bool true)) (by simp [results, Tryz.results24, go_sem]) rfl ?_
    exact ⟨rfl, by (repeat (first | exact Below.refl _ _ | assumption | with_reducible refine below_alloc ?_ _ | with_reducible refine below_grow ?_ _ | with_reducible refine below_drewN ?_ _ | with_reducible refine below_drew ?_ | with_reducible refine below_setCell ?_ (by first | (dsimp only; omega) | (simp; done) | (simp; omega)) _))⟩
  cases hh : s.head? == some 47 with
  | false =>
    rw [hh] at HPX
    have HB : Hid (pathB s = false) := by show _ = _; unfold pathB; rw [hh, Bool.false_and, Bool.or_false]; simpa using n1
    have m1 : (s == [47]) = false := by rw [beq_eq_false_iff_ne]; exact n1
    clear n1
    go_enter Tryz.func24, Tryz.ntmps24
    go_wp2_with (go_at_call 42; refine (HPX.out _).mono ?_; rintro e w' ⟨rfl, rfl⟩)
    refine bodyPost_ret (v := (.bool false)) (by simp [results, Tryz.results24, go_sem]) rfl ?_
    exact ⟨by rw [HB.out], by (repeat (first | exact Below.refl _ _ | assumption | with_reducible refine below_alloc ?_ _ | with_reducible refine below_grow ?_ _ | with_reducible refine below_drewN ?_ _ | with_reducible refine below_drew ?_ | with_reducible refine below_setCell ?_ (by first | (dsimp only; omega) | (simp; done) | (simp; omega)) _))⟩
  | true =>
    rw [hh] at HPX
    obtain ⟨t, rfl⟩ : ∃ t, s = 47 :: t := by
      cases s with
      | nil => cases hh
      | cons c r => exact ⟨r, by simp at hh; rw [hh]⟩
    have ht : ¬ t = [] := fun e => n1 (by rw [e])
    have ht2 : t.isEmpty = false := by simpa using ht
    have hms := hm.lt
    have HM := Lib.hid hm
    have HGV := Lib.hid (parts_gives t (w.alloc (.cells #[.bool false] 4)) (hm.below (by (repeat (first | exact Below.refl _ _ | assumption | with_reducible refine below_alloc ?_ _ | with_reducible refine below_grow ?_ _ | with_reducible refine below_drewN ?_ _ | with_reducible refine below_drew ?_ | with_reducible refine below_setCell ?_ (by first | (dsimp only; omega) | (simp; done) | (simp; omega)) _)))) (by simp at hs; omega))
    have HPA := Lib.hid fun w => parts_any t w
    have HIN := Lib.hid fun x w => isName_any x w
    have HB : Hid (pathB (47 :: t) = (partsL t).all nameB) := by
      show _ = _
      unfold pathB
      rw [show ((47 :: t : List UInt8) == [47]) = false by rw [beq_eq_false_iff_ne]; exact n1, Bool.false_or, hh, Bool.true_and]
      rfl
    clear hm n1 hh
    generalize pathB (47 :: t) = res at *
    generalize partsL t = ps at *
    refine (callsIn_wide (n := 9)).1 ?_; refine callsIn_of_wp_marks Tryz.func24 rfl trivial ?_ rfl; simp only [Tryz.ntmps24, List.size_toArray, List.length_cons, List.length_nil, Nat.reduceAdd, Nat.reduceSub, Array.replicate_succ, Array.replicate_zero, List.push_toArray, List.append_toArray, List.nil_append, List.cons_append]
    refine wpIn_wide.2 ?_
    go_wp2_with (first | (go_at_call 42; refine (HPX.out _).mono ?_; rintro e w' ⟨rfl, rfl⟩) | (go_at_call 43; refine (HPA.out _).mono ?_; rintro e w1 ⟨rfl, rfl⟩))
    refine (wpIn_wide (n := 9)).1 ?_
    have HG := HGV.out
    simp only [World.size_alloc] at HG
    have HGK : Hid (∀ k, (k = w.heap.size + 1 ∨ k = 0) → k < w.heap.size + 1 + 1 ∧ k ≠ w.heap.size) := fun k hk => by omega
    refine wpIn_iterW (n := 9) (by omega) (gf := 63) rfl (enters_of Tryz.func63 (by kernel_rfl) rfl) HG (by simp) (fun k hk => by have := (HGK.out k hk).1; simpa using this) (fun _ => rfl)
      (fun pre W => PathI w pre W) (fun c pre W => c = .ret ∧ PathX w pre W)
      (fun s W W' hL h => h.lull hL (by simp; omega)) (fun c s W W' hL ⟨e, h⟩ => ⟨e, h.lull hL (by simp; omega)⟩)
      (fun s W W' hk h => h.keeps hk (by simp)) (fun c s W W' hk ⟨e, h⟩ => ⟨e, h.keeps hk (by simp)⟩)
      ?init
      (fun x a' W' => a' = { tmps := #[.string (B (47 :: t)), undef, .pointer (some ⟨w.heap.size, 0, none⟩), .string (B x), .string (B (47 :: t)), .bool false, .string (B (47 :: t)), .bool true, .bool false, .string (B (47 :: t)), .string (B t), .func (.func 63) #[] #[.pointer (some ⟨w.heap.size + 1, 0, none⟩)], .string (B x), undef, undef, undef], defers := [] }) (fun x a' W W' hL h => h) ?assign ?body ?done ?stop
    case init => exact ⟨⟨_, by go_simp; rfl⟩, by simp [go_sem], by simp, by (repeat (first | exact Below.refl _ _ | assumption | with_reducible refine below_alloc ?_ _ | with_reducible refine below_grow ?_ _ | with_reducible refine below_drewN ?_ _ | with_reducible refine below_drew ?_ | with_reducible refine below_setCell ?_ (by first | (dsimp only; omega) | (simp; done) | (simp; omega)) _)), by simp⟩
    case assign =>
      intro l pre x W K hi hs hK
      have HK := Lib.hid (hK { tmps := #[.string (B (47 :: t)), undef, .pointer (some ⟨w.heap.size, 0, none⟩), .string (B x), .string (B (47 :: t)), .bool false, .string (B (47 :: t)), .bool true, .bool false, .string (B (47 :: t)), .string (B t), .func (.func 63) #[] #[.pointer (some ⟨w.heap.size + 1, 0, none⟩)], .string (B x), undef, undef, undef], defers := [] } _ (KeepsFrom.refl _ _) (fun _ _ => rfl) hi rfl)
      clear hK
      unfold encS at *
      gi_wp2
      exact HK.out
    case body =>
      rintro l pre x a' W hs h1 rfl hlt
      have hs' : w.heap.size + 2 ≤ W.heap.size := h1.s
      have H1 := Lib.hid h1
      obtain ⟨v, hv⟩ := h1.r
      have hz := h1.z
      have HX := Lib.hid fun w => HIN.out x w
      haveI : Old W (w.heap.size) := ⟨by omega⟩
      clear h1
      cases hb : nameB x with
      | true =>
        rw [hb] at HX
        gi_wp2
        refine (callsIn_wide.2 (HX.out _)).mono ?_
        rintro e w3 ⟨rfl, rfl⟩
        gi_wp2
        refine ⟨KeepsFrom.refl _ _, fun _ _ => rfl, H1.out.r, H1.out.z, fun y hy => ?_, H1.out.b, H1.out.s⟩
        rcases List.mem_append.1 hy with hy | hy
        · exact H1.out.a y hy
        · simp at hy; subst hy; exact hb
      | false =>
        rw [hb] at HX
        gi_wp2
        refine (callsIn_wide.2 (HX.out _)).mono ?_
        rintro e w3 ⟨rfl, rfl⟩
        gi_wp2
        have hS := Keeps.setCell (F := fun k => k = w.heap.size) W (a := ⟨w.heap.size, 0, none⟩) rfl (.bool false)
        refine ⟨KeepsFrom.of_keeps hS (fun k hF _ hA => by simp at hA; omega), rfl, ?_, ⟨x, by simp, hb⟩, below_keeps H1.out.b hS (fun k hk => by omega), Nat.le_trans H1.out.s hS.size⟩
        exact World.cell?_setCell_same' _ _ _ (by rw [hv]; rfl)
    case done =>
      rintro D W hD h1 hK
      have hD' : w.heap.size + 1 + 1 ≤ D := by simpa using hD
      obtain ⟨v, hv⟩ := h1.r
      have hz := h1.z
      have hs' := h1.s
      haveI : Old W (w.heap.size) := ⟨by omega⟩
      have HR : Hid (res = true) := by show _ = _; rw [HB.out, List.all_eq_true]; exact h1.a
      have H1 := Lib.hid h1
      clear h1
      gi_wp2
      go_wp2
      have hS := Keeps.setCell (F := fun k => k = w.heap.size) W (a := ⟨w.heap.size, 0, none⟩) rfl (.bool true)
      have q0 : (W.setCell ⟨w.heap.size, 0, none⟩ (.bool true)).cell? ⟨w.heap.size, 0, none⟩ = some (.bool true) := World.cell?_setCell_same' _ _ _ (by rw [hv]; rfl)
      have hK' := (hS.block D (Array.getElem?_eq_some_iff.1 hK).1 (by omega)).trans hK
      have hB2 := below_keeps H1.out.b hS (fun k hk => by omega)
      generalize W.setCell ⟨w.heap.size, 0, none⟩ (.bool true) = W2 at *
      have hL : Lull (w.heap.size + 1 + 1) W2 (W2.putObj D (.deferred none)) := Lull.of_grown (grownBy_putObj' _ D _) (fun r e => by cases e; exact ⟨hD', _, hK', rfl⟩)
      have p0 := hL.cell q0
      refine ⟨by simp, .inl ⟨_, _, rfl, run_takeDeferred hK', ?_⟩⟩
      exact ⟨.bool true, by simp [results, Tryz.results24, go_sem, p0], by rw [HR.out], hL.below hB2 (by omega) (Nat.le_refl _)⟩
    case stop =>
      rintro D c pre W hD hpre ⟨rfl, hx⟩ hK
      have hD' : w.heap.size + 1 + 1 ≤ D := by simpa using hD
      have hL : Lull (w.heap.size + 1 + 1) W (W.putObj D (.deferred none)) := Lull.of_grown (grownBy_putObj' _ D _) (fun r e => by cases e; exact ⟨hD', _, hK, rfl⟩)
      have p0 := hL.cell hx.r
      have HR : Hid (res = false) := by
        show _ = _
        obtain ⟨x, hxm, hxb⟩ := hx.x
        rw [HB.out, Bool.eq_false_iff]
        intro h
        have := List.all_eq_true.1 h x (hpre.subset hxm)
        rw [hxb] at this
        cases this
      have hB2 := hL.below hx.b (by omega) (Nat.le_refl _)
      gi_wp2
      refine ⟨by simp, .inl ⟨_, _, rfl, run_takeDeferred hK, ?_⟩⟩
      exact ⟨.bool false, by simp [results, Tryz.results24, go_sem, p0], by rw [HR.out], hB2⟩
end Go.Proofs.YtnecmpgcjgkheaaGreat.Fil
