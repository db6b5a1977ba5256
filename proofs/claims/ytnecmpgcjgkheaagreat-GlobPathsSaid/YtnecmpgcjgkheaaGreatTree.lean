/-
  A tree of files in memory (layer 18); find. Conditions: paths of at most 2^30 bytes; the library's variable MaxLen holds some number.
-/
import Derived.Test.YtnecmpgcjgkheaaGreatKids
set_option linter.unusedSimpArgs false
set_option linter.unusedVariables false
namespace Go.Proofs.YtnecmpgcjgkheaaGreat.Fil
open Go.ChangeShapes Go.WideShapes Go.Deep Go.RowKit Go.Shelf Pat
attribute [local go_sem] Oper.semAt_some
set_option maxRecDepth 100000
/-- Where a name's node lies below another one's. -/
def below (x : List Fl) (nb : List (List UInt8) → Nat) (ks : List (List UInt8)) (a : List UInt8) : Option Nat := if (kd x (ks ++ [a])).isSome = true then some (nb (ks ++ [a])) else none
/-- A tree in memory: the node of the names ks lies in block nb ks, its map is mp ks. -/
structure TreeAt (w : World) (b0 tb : Nat) (x : List Fl) (nb : List (List UInt8) → Nat) (mp : List (List UInt8) → Option Nat) : Prop where
  lt : tb < w.heap.size
  ge : b0 ≤ tb
  t0 : w.cell? ⟨tb, 0, none⟩ = some (.pointer (some ⟨nb [], 0, none⟩))
  t1 : w.cell? ⟨tb, 1, none⟩ = some (.int .i64 x.length)
  tf : ∀ j, w.frozen? ⟨tb, j, none⟩ = false
  ok : RowF x
  n : ∀ ks k, kd x ks = some k → b0 ≤ nb ks ∧ nb ks < w.heap.size ∧ nb ks ≠ tb ∧ w.cell? ⟨nb ks, 0, none⟩ = some (.int .i64 k) ∧ w.cell? ⟨nb ks, 1, none⟩ = some (.map (mp ks)) ∧ ∀ j, w.frozen? ⟨nb ks, j, none⟩ = false
  k0 : ∀ ks, (kd x ks).isSome = true → mp ks = none → ∀ a, kd x (ks ++ [a]) = none
  k1 : ∀ ks r, (kd x ks).isSome = true → mp ks = some r → b0 ≤ r ∧ ∃ c, KidsAt w r (below x nb ks) c ∧ c ≤ x.length
  i : ∀ ks js, (kd x ks).isSome = true → (kd x js).isSome = true → nb ks = nb js → ks = js
  im : ∀ ks js r, (kd x ks).isSome = true → (kd x js).isSome = true → mp ks = some r → mp js = some r → ks = js
theorem TreeAt.below {w w' : World} {b0 tb : Nat} {x : List Fl} {nb : List (List UInt8) → Nat} {mp : List (List UInt8) → Option Nat} (h : TreeAt w b0 tb x nb mp) (hb : Below w.heap.size w w') : TreeAt w' b0 tb x nb mp := by
  refine ⟨Nat.lt_of_lt_of_le h.lt hb.size, h.ge, (hb.cell (p := ⟨tb, 0, none⟩) h.lt).trans h.t0, (hb.cell (p := ⟨tb, 1, none⟩) h.lt).trans h.t1, fun j => (hb.frozen (p := ⟨tb, j, none⟩) h.lt).trans (h.tf j), h.ok, fun ks k hk => ?_, h.k0, fun ks r h1 h2 => ?_, h.i, h.im⟩
  · obtain ⟨n1, n2, n3, n4, n5, n6⟩ := h.n ks k hk
    exact ⟨n1, Nat.lt_of_lt_of_le n2 hb.size, n3, (hb.cell (p := ⟨nb ks, 0, none⟩) n2).trans n4, (hb.cell (p := ⟨nb ks, 1, none⟩) n2).trans n5, fun j => (hb.frozen (p := ⟨nb ks, j, none⟩) n2).trans (n6 j)⟩
  · obtain ⟨k1, c, k2, k3⟩ := h.k1 ks r h1 h2
    exact ⟨k1, c, k2.below hb, k3⟩
/-- kids[a], at a node. -/
theorem TreeAt.look {w : World} {b0 tb : Nat} {x : List Fl} {nb : List (List UInt8) → Nat} {mp : List (List UInt8) → Option Nat} (h : TreeAt w b0 tb x nb mp) {ks : List (List UInt8)} (hk : (kd x ks).isSome = true) (a : List UInt8) (ha : a.length ≤ 1073741824) :
    (Instr.lookup 54 (.map (mp ks)) (.string (B a)) false).run Tryz.prog w = .ok (ptrV (Fil.below x nb ks a)) w := by
  cases hm : mp ks with
  | none =>
    have := h.k0 ks hk hm a
    unfold Fil.below
    rw [this]
    exact look_nil w a ha
  | some r =>
    obtain ⟨_, c, k2, _⟩ := h.k1 ks r hk hm
    exact k2.look a ha
/-- What find returns. -/
def nodeV (x : List Fl) (nb : List (List UInt8) → Nat) (ks : List (List UInt8)) : Value := ptrV (if (kd x ks).isSome = true then some (nb ks) else none)
theorem kd_up {x : List Fl} (h : RowF x) (ks : List (List UInt8)) : ∀ (n : Nat) (js : List (List UInt8)), js.length = n → (kd x (ks ++ js)).isSome = true → (kd x ks).isSome = true
  | 0, js, hl, hk => by
    rw [List.eq_nil_of_length_eq_zero hl, List.append_nil] at hk
    exact hk
  | n + 1, js, hl, hk => by
    rcases List.eq_nil_or_concat js with rfl | ⟨l, a, rfl⟩
    · cases hl
    · rw [List.concat_eq_append, ← List.append_assoc] at hk
      exact kd_up h ks n l (by rw [List.length_concat] at hl; omega) (by rw [h.u _ _ hk]; rfl)
/-- What holds at each round of find. -/
structure FindI (w : World) (x : List Fl) (nb : List (List UInt8) → Nat) (q : List (List UInt8)) (W : World) : Prop where
  r : ∃ v, W.cell? ⟨w.heap.size, 0, none⟩ = some v
  rf : W.frozen? ⟨w.heap.size, 0, none⟩ = false
  a : W.cell? ⟨w.heap.size + 1, 0, none⟩ = some (.pointer (some ⟨nb q, 0, none⟩))
  af : W.frozen? ⟨w.heap.size + 1, 0, none⟩ = false
  k : (kd x q).isSome = true
  b : Below w.heap.size w W
  s : w.heap.size + 3 ≤ W.heap.size
structure FindX (w : World) (x : List Fl) (q : List (List UInt8)) (W : World) : Prop where
  r : W.cell? ⟨w.heap.size, 0, none⟩ = some (.pointer none)
  k : kd x q = none
  b : Below w.heap.size w W
  s : w.heap.size + 3 ≤ W.heap.size
theorem FindI.lull {w W W' : World} {A : Nat} {x : List Fl} {nb : List (List UInt8) → Nat} {q : List (List UInt8)} (h : FindI w x nb q W) (hL : Lull A W W') (hA : w.heap.size ≤ A) : FindI w x nb q W' := by
  obtain ⟨v, hv⟩ := h.r
  exact ⟨⟨v, hL.cell hv⟩, (hL.frozen hv).trans h.rf, hL.cell h.a, (hL.frozen h.a).trans h.af, h.k, hL.below h.b hA (Nat.le_refl _), Nat.le_trans h.s hL.size⟩
theorem FindX.lull {w W W' : World} {A : Nat} {x : List Fl} {q : List (List UInt8)} (h : FindX w x q W) (hL : Lull A W W') (hA : w.heap.size ≤ A) : FindX w x q W' :=
  ⟨hL.cell h.r, h.k, hL.below h.b hA (Nat.le_refl _), Nat.le_trans h.s hL.size⟩
theorem FindI.keeps {w W W' : World} {b : Nat} {x : List Fl} {nb : List (List UInt8) → Nat} {q : List (List UInt8)} (h : FindI w x nb q W) (hk : Keeps (fun k => k = b) W W') (hb : w.heap.size + 1 < b) : FindI w x nb q W' := by
  have hs := h.s
  have h0 := hk.block w.heap.size (by omega) (by omega)
  have h1 := hk.block (w.heap.size + 1) (by omega) (by omega)
  obtain ⟨v, hv⟩ := h.r
  exact ⟨⟨v, (World.cell?_of_block (w := W) h0).trans hv⟩, (World.frozen?_of_block (w := W) h0).trans h.rf, (World.cell?_of_block (w := W) h1).trans h.a, (World.frozen?_of_block (w := W) h1).trans h.af, h.k, below_keeps h.b hk (fun k e => by omega), Nat.le_trans hs hk.size⟩
theorem FindX.keeps {w W W' : World} {b : Nat} {x : List Fl} {q : List (List UInt8)} (h : FindX w x q W) (hk : Keeps (fun k => k = b) W W') (hb : w.heap.size + 1 < b) : FindX w x q W' := by
  have hs := h.s
  have h0 := hk.block w.heap.size (by omega) (by omega)
  exact ⟨(World.cell?_of_block (w := W) h0).trans h.r, h.k, below_keeps h.b hk (fun k e => by omega), Nat.le_trans hs hk.size⟩
set_option maxHeartbeats 6400000 in
theorem find_any (w : World) (b0 tb : Nat) (x : List Fl) (nb : List (List UInt8) → Nat) (mp : List (List UInt8) → Option Nat) (p : List UInt8) (h : TreeAt w b0 tb x nb mp) (hm : MaxL w) (hp : pathB p = true) (hl : p.length ≤ 1073741824) :
    Calls Tryz.prog 26 #[.pointer (some ⟨tb, 0, none⟩), .string (B p)] w fun e w' => e = .returned (nodeV x nb (nms p)) ∧ Below w.heap.size w w' := by
  have H := Lib.hid h
  have t0 := h.t0
  have hlt := h.lt
  haveI : Old w tb := ⟨h.lt⟩
  have hms := hm.lt
  clear h
  by_cases n1 : p = [47]
  · subst n1
    have HV : Hid (nodeV x nb (nms [47]) = .pointer (some ⟨nb [], 0, none⟩)) := rfl
    go_enter Tryz.func26, Tryz.ntmps26
    go_wp2
    refine bodyPost_ret (v := (.pointer (some ⟨nb [], 0, none⟩))) (by simp [results, Tryz.results26, go_sem]) rfl ?_
    exact ⟨by rw [HV.out], by (repeat (first | exact Below.refl _ _ | assumption | with_reducible refine below_alloc ?_ _ | with_reducible refine below_grow ?_ _ | with_reducible refine below_drewN ?_ _ | with_reducible refine below_drew ?_ | with_reducible refine below_setCell ?_ (by first | (dsimp only; omega) | (simp; done) | (simp; omega)) _))⟩
  obtain ⟨t, rfl⟩ : ∃ t, p = 47 :: t := by
    have := path_head hp
    cases p with
    | nil => cases this
    | cons c r => exact ⟨r, by simp at this; rw [this]⟩
  have hnm : nms (47 :: t) = partsL t := by unfold nms; rw [if_neg n1]; rfl
  rw [hnm]
  have ht : ¬ t = [] := fun e => n1 (by rw [e])
  have ht2 : t.isEmpty = false := by simpa using ht
  have HGV := Lib.hid (parts_gives t ((w.alloc (.cells #[.pointer none] 53)).alloc (.cells #[.pointer (some ⟨nb [], 0, none⟩)] 53)) (hm.below (by (repeat (first | exact Below.refl _ _ | assumption | with_reducible refine below_alloc ?_ _ | with_reducible refine below_grow ?_ _ | with_reducible refine below_drewN ?_ _ | with_reducible refine below_drew ?_ | with_reducible refine below_setCell ?_ (by first | (dsimp only; omega) | (simp; done) | (simp; omega)) _)))) (by simp at hl; omega))
  have HPA := Lib.hid fun w => parts_any t w
  have hpm := fun a (ha : a ∈ partsL t) => (partsL_mem ha).2
  have HPM := Lib.hid hpm
  have HV := Lib.hid (show nodeV x nb (partsL t) = ptrV (if (kd x (partsL t)).isSome = true then some (nb (partsL t)) else none) from rfl)
  clear hm n1 hp hnm hpm
  simp only [List.length_cons] at hl
  generalize nodeV x nb (partsL t) = res at *
  generalize hps : partsL t = ps at *
  clear hps
  refine (callsIn_wide (n := 9)).1 ?_; refine callsIn_of_wp_marks Tryz.func26 rfl trivial ?_ rfl; simp only [Tryz.ntmps26, List.size_toArray, List.length_cons, List.length_nil, Nat.reduceAdd, Nat.reduceSub, Array.replicate_succ, Array.replicate_zero, List.push_toArray, List.append_toArray, List.nil_append, List.cons_append]
  refine wpIn_wide.2 ?_
  go_wp2_with (first | (go_at_call 43; refine (HPA.out _).mono ?_; rintro e w1 ⟨rfl, rfl⟩))
  refine (wpIn_wide (n := 9)).1 ?_
  have HG := HGV.out
  simp only [World.size_alloc] at HG
  have HGK : Hid (∀ k, (k = w.heap.size + 1 + 1 ∨ k = 0) → k < w.heap.size + 1 + 1 + 1 ∧ k ≠ w.heap.size ∧ k ≠ w.heap.size + 1) := fun k hk => by omega
  refine wpIn_iterW (n := 9) (by omega) (gf := 63) rfl (enters_of Tryz.func63 (by kernel_rfl) rfl) HG (by simp) (fun k hk => by have := (HGK.out k hk).1; simpa using this) (fun _ => rfl)
    (fun q W => FindI w x nb q W) (fun c q W => c = .ret ∧ FindX w x q W)
    (fun s W W' hL h => h.lull hL (by simp; omega)) (fun c s W W' hL ⟨e, h⟩ => ⟨e, h.lull hL (by simp; omega)⟩)
    (fun s W W' hk h => h.keeps hk (by simp)) (fun c s W W' hk ⟨e, h⟩ => ⟨e, h.keeps hk (by simp)⟩)
    ?init
    (fun a a' W' => a' = { tmps := #[.pointer (some ⟨tb, 0, none⟩), .string (B (47 :: t)), undef, undef, .pointer (some ⟨w.heap.size, 0, none⟩), .pointer (some ⟨w.heap.size + 1, 0, none⟩), .string (B a), .pointer (some ⟨tb, 0, none⟩), .pointer (some ⟨tb, 0, none⟩), .pointer (some ⟨tb, 0, none⟩), .pointer (some ⟨nb [], 0, none⟩), .string (B (47 :: t)), .bool false, .bool false, .pointer (some ⟨nb [], 0, none⟩), .bool false, .bool false, undef, .string (B (47 :: t)), .string (B t), .func (.func 63) #[] #[.pointer (some ⟨w.heap.size + 1 + 1, 0, none⟩)], .string (B a), undef, undef, undef, undef, undef, undef, undef, undef, undef], defers := [] }) (fun a a' W W' hL h => h) ?assign ?body ?done ?stop
  case init => exact ⟨⟨_, by go_simp; rfl⟩, by simp [go_sem], by go_simp, by simp [go_sem], rfl, by (repeat (first | exact Below.refl _ _ | assumption | with_reducible refine below_alloc ?_ _ | with_reducible refine below_grow ?_ _ | with_reducible refine below_drewN ?_ _ | with_reducible refine below_drew ?_ | with_reducible refine below_setCell ?_ (by first | (dsimp only; omega) | (simp; done) | (simp; omega)) _)), by simp⟩
  case assign =>
    intro l q a W K hi hs hK
    have HK := Lib.hid (hK { tmps := #[.pointer (some ⟨tb, 0, none⟩), .string (B (47 :: t)), undef, undef, .pointer (some ⟨w.heap.size, 0, none⟩), .pointer (some ⟨w.heap.size + 1, 0, none⟩), .string (B a), .pointer (some ⟨tb, 0, none⟩), .pointer (some ⟨tb, 0, none⟩), .pointer (some ⟨tb, 0, none⟩), .pointer (some ⟨nb [], 0, none⟩), .string (B (47 :: t)), .bool false, .bool false, .pointer (some ⟨nb [], 0, none⟩), .bool false, .bool false, undef, .string (B (47 :: t)), .string (B t), .func (.func 63) #[] #[.pointer (some ⟨w.heap.size + 1 + 1, 0, none⟩)], .string (B a), undef, undef, undef, undef, undef, undef, undef, undef, undef], defers := [] } _ (KeepsFrom.refl _ _) (fun _ _ => rfl) hi rfl)
    clear hK
    unfold encS at *
    gi_wp2
    exact HK.out
  case body =>
    rintro l q a a' W hs h1 rfl hlq
    have hs' : w.heap.size + 3 ≤ W.heap.size := h1.s
    have H1 := Lib.hid h1
    obtain ⟨v, hv⟩ := h1.r
    have hz := h1.rf
    have ha := h1.a
    have haf := h1.af
    have hk := h1.k
    obtain ⟨k, hkk⟩ := Option.isSome_iff_exists.1 hk
    have HT := Lib.hid (H.out.below h1.b)
    obtain ⟨n1, n2, n3, n4, n5, n6⟩ := HT.out.n q k hkk
    have hal : a.length ≤ 1073741824 := by have := HPM.out a (hlq.subset (by simp)); omega
    have hlk := HT.out.look hk a hal
    haveI : Old W (w.heap.size) := ⟨by omega⟩
    haveI : Old W (w.heap.size + 1) := ⟨by omega⟩
    haveI : Old W (nb q) := ⟨n2⟩
    clear h1 hkk n1 n3
    cases hc : kd x (q ++ [a]) with
    | none =>
      have HLK : Hid (Fil.below x nb q a = none) := by show _ = _; unfold Fil.below; rw [hc]; rfl
      rw [HLK.out] at hlk
      unfold ptrV at hlk
      gi_wp2
      have hS := (Keeps.setCell (F := fun k => k = w.heap.size ∨ k = w.heap.size + 1) W (a := ⟨w.heap.size + 1, 0, none⟩) (.inr rfl) (.pointer none)).trans (Keeps.setCell (F := fun k => k = w.heap.size ∨ k = w.heap.size + 1) (W.setCell ⟨w.heap.size + 1, 0, none⟩ (.pointer none)) (a := ⟨w.heap.size, 0, none⟩) (.inl rfl) (.pointer none))
      refine ⟨KeepsFrom.of_keeps hS (fun k hF _ hA => by omega), rfl, ⟨?_, hc, below_keeps H1.out.b hS (fun k hk => by omega), Nat.le_trans H1.out.s hS.size⟩⟩
      exact World.cell?_setCell_same' _ _ _ (by rw [World.cell?_setCell_other _ _ _ _ (by simp), hv]; rfl)
    | some k2 =>
      have HLK : Hid (Fil.below x nb q a = some (nb (q ++ [a]))) := by show _ = _; unfold Fil.below; rw [hc]; rfl
      rw [HLK.out] at hlk
      unfold ptrV at hlk
      gi_wp2
      have hS := Keeps.setCell (F := fun k => k = w.heap.size + 1) W (a := ⟨w.heap.size + 1, 0, none⟩) rfl (.pointer (some ⟨nb (q ++ [a]), 0, none⟩))
      have hb0 := hS.block w.heap.size (by omega) (by omega)
      refine ⟨KeepsFrom.of_keeps hS (fun k hF _ hA => by omega), KeepG.of_keeps hS (fun k hk => by have := (HGK.out k hk).1; omega) (fun k hk e => by have := (HGK.out k hk).2; omega), ⟨v, (World.cell?_of_block (w := W) hb0).trans hv⟩, by rw [World.frozen?_setCell]; exact hz, World.cell?_setCell_same' _ _ _ (by rw [ha]; rfl), by rw [World.frozen?_setCell]; exact haf, by rw [hc]; rfl, below_keeps H1.out.b hS (fun k hk => by omega), Nat.le_trans H1.out.s hS.size⟩
  case done =>
    rintro D W hD h1 hK
    have hD' : w.heap.size + 1 + 1 + 1 ≤ D := by simpa using hD
    obtain ⟨v, hv⟩ := h1.r
    have hz := h1.rf
    have ha := h1.a
    have hs' := h1.s
    haveI : Old W (w.heap.size) := ⟨by omega⟩
    haveI : Old W (w.heap.size + 1) := ⟨by omega⟩
    have HR : Hid (res = .pointer (some ⟨nb ps, 0, none⟩)) := by show _ = _; rw [HV.out, if_pos h1.k]; rfl
    have H1 := Lib.hid h1
    clear h1
    gi_wp2
    go_wp2
    have hS := Keeps.setCell (F := fun k => k = w.heap.size) W (a := ⟨w.heap.size, 0, none⟩) rfl (.pointer (some ⟨nb ps, 0, none⟩))
    have q0 : (W.setCell ⟨w.heap.size, 0, none⟩ (.pointer (some ⟨nb ps, 0, none⟩))).cell? ⟨w.heap.size, 0, none⟩ = some (.pointer (some ⟨nb ps, 0, none⟩)) := World.cell?_setCell_same' _ _ _ (by rw [hv]; rfl)
    have hK' := (hS.block D (Array.getElem?_eq_some_iff.1 hK).1 (by omega)).trans hK
    have hB2 := below_keeps H1.out.b hS (fun k hk => by omega)
    generalize W.setCell ⟨w.heap.size, 0, none⟩ (.pointer (some ⟨nb ps, 0, none⟩)) = W2 at *
    have hL : Lull (w.heap.size + 1 + 1 + 1) W2 (W2.putObj D (.deferred none)) := Lull.of_grown (grownBy_putObj' _ D _) (fun r e => by cases e; exact ⟨hD', _, hK', rfl⟩)
    have p0 := hL.cell q0
    refine ⟨by simp, .inl ⟨_, _, rfl, run_takeDeferred hK', ?_⟩⟩
    exact ⟨_, by simp [results, Tryz.results26, go_sem, p0]; rfl, by rw [HR.out], hL.below hB2 (by omega) (Nat.le_refl _)⟩
  case stop =>
    rintro D c q W hD hpre ⟨rfl, hx⟩ hK
    have hD' : w.heap.size + 1 + 1 + 1 ≤ D := by simpa using hD
    have hL : Lull (w.heap.size + 1 + 1 + 1) W (W.putObj D (.deferred none)) := Lull.of_grown (grownBy_putObj' _ D _) (fun r e => by cases e; exact ⟨hD', _, hK, rfl⟩)
    have p0 := hL.cell hx.r
    have HR : Hid (res = .pointer none) := by
      show _ = _
      obtain ⟨l2, hl2⟩ := hpre
      have : ¬ (kd x ps).isSome = true := fun hk => by
        rw [← hl2] at hk
        have := kd_up H.out.ok q _ l2 rfl hk
        rw [hx.k] at this
        cases this
      rw [HV.out, if_neg this]; rfl
    have hB2 := hL.below hx.b (by omega) (Nat.le_refl _)
    gi_wp2
    refine ⟨by simp, .inl ⟨_, _, rfl, run_takeDeferred hK, ?_⟩⟩
    exact ⟨_, by simp [results, Tryz.results26, go_sem, p0]; rfl, by rw [HR.out], hB2⟩
end Go.Proofs.YtnecmpgcjgkheaaGreat.Fil
