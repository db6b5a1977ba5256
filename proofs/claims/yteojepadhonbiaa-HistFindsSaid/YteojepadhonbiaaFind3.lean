/-
  The walk of (*hist.Hist).Find. Conditions: texts of at most 2^30 bytes; the library's variable MaxLen holds some number.
-/
import Derived.Test.YteojepadhonbiaaFind2
import Derived.WalkMore
namespace Go.Proofs.Yteojepadhonbiaa
open Go.ChangeShapes Go.WideShapes Go.Deep Go.RowKit Go.Shelf Pat
attribute [local go_sem] Oper.semAt_some
set_option maxRecDepth 100000
theorem lastN_none (f : Nat → Bool) : ∀ m, (∀ i ∈ downs m, f i = false) → lastN f m = -1
  | 0, _ => rfl
  | m + 1, h => by
    unfold lastN
    rw [h m (by simp [downs]), if_neg (by simp)]
    exact lastN_none f m fun i hi => h i (by simp [downs, hi])
theorem lastN_some (f : Nat → Bool) : ∀ (m : Nat) (q : List Nat) (i : Nat), q ++ [i] <+: downs m → (∀ j ∈ q, f j = false) → f i = true → lastN f m = i
  | 0, q, i, h, _, _ => by simp [downs] at h
  | m + 1, [], i, h, _, hi => by
    have : i = m := by simpa [downs] using h
    unfold lastN
    rw [← this, if_pos hi]
  | m + 1, j :: q, i, h, hq, hi => by
    obtain ⟨h1, h2⟩ : j = m ∧ q ++ [i] <+: downs m := by simpa [downs] using h
    unfold lastN
    rw [if_neg (by rw [← h1, hq j (by simp)]; simp)]
    exact lastN_some f m q i h2 (fun k hk => hq k (by simp [hk])) hi
/-- What holds at each round of Find. -/
structure FindI (w : World) (text : List UInt8) (how : Int) (f : Nat → Bool) (pre : List Nat) (W : World) : Prop where
  r : W.cell? ⟨w.heap.size + 1 + 1, 0, none⟩ = some (.int .i64 (-1))
  z : W.frozen? ⟨w.heap.size + 1 + 1, 0, none⟩ = false
  t : W.cell? ⟨w.heap.size, 0, none⟩ = some (.string (B text))
  h : W.cell? ⟨w.heap.size + 1, 0, none⟩ = some (.int .i64 how)
  a : ∀ x ∈ pre, f x = false
  b : Below w.heap.size w W
  s : w.heap.size + 5 ≤ W.heap.size
theorem FindI.lull {w W W' : World} {text : List UInt8} {how : Int} {f : Nat → Bool} {pre : List Nat} (h : FindI w text how f pre W) {A : Nat} (hL : Lull A W W') (hA : w.heap.size ≤ A) : FindI w text how f pre W' :=
  ⟨hL.cell h.r, (hL.frozen h.r).trans h.z, hL.cell h.t, hL.cell h.h, h.a, hL.below h.b hA (Nat.le_refl _), Nat.le_trans h.s hL.size⟩
theorem FindI.below {w W W' : World} {text : List UInt8} {how : Int} {f : Nat → Bool} {pre : List Nat} (h : FindI w text how f pre W) (hb : Below W.heap.size W W') : FindI w text how f pre W' := by
  have hl := h.s
  exact ⟨(hb.cell (p := ⟨_, _, none⟩) (by dsimp only; omega)).trans h.r, (hb.frozen (p := ⟨_, _, none⟩) (by dsimp only; omega)).trans h.z, (hb.cell (p := ⟨_, _, none⟩) (by dsimp only; omega)).trans h.t, (hb.cell (p := ⟨_, _, none⟩) (by dsimp only; omega)).trans h.h, h.a, h.b.trans (hb.mono h.b.size), Nat.le_trans h.s hb.size⟩
/-- Find has found. -/
structure FindX (w : World) (f : Nat → Bool) (pre : List Nat) (W : World) : Prop where
  x : ∃ q i, pre = q ++ [i] ∧ (∀ j ∈ q, f j = false) ∧ f i = true ∧ W.cell? ⟨w.heap.size + 1 + 1, 0, none⟩ = some (.int .i64 (i : Nat))
  b : Below w.heap.size w W
  s : w.heap.size + 5 ≤ W.heap.size
theorem FindX.lull {w W W' : World} {f : Nat → Bool} {pre : List Nat} (h : FindX w f pre W) {A : Nat} (hL : Lull A W W') (hA : w.heap.size ≤ A) : FindX w f pre W' := by
  obtain ⟨q, i, e, h1, h2, h3⟩ := h.x
  exact ⟨⟨q, i, e, h1, h2, hL.cell h3⟩, hL.below h.b hA (Nat.le_refl _), Nat.le_trans h.s hL.size⟩
def FindP (r : Int) (w : World) (e : Ending) (w' : World) : Prop := e = .returned (.tuple (if r < 0 then #[.int .i64 0, .bool false] else #[.int .i64 r, .bool true])) ∧ Below w.heap.size w w'
set_option maxHeartbeats 3200000 in
theorem find_any (w : World) (b0 hb : Nat) (lv : Value) (most : Int) (xs : List (List UInt8)) (text : List UInt8) (before how : Int) (hm : MaxL w) (hx : xs.length ≤ 1048576) (hl : ∀ x ∈ xs, x.length ≤ 1073741824) (ht : text.length ≤ 1073741824) (hh : HistAt w b0 hb lv most xs) :
    Calls Try.prog 55 #[.pointer (some ⟨hb, 0, none⟩), .string (B text), .int .i64 before, .int .i64 how] w (FindP (lastN (isAt xs text how) (min before.toNat xs.length)) w) := by
  have HOL := Lib.hid fun w b => older_any w hb b
  have hp := (hh.below (below_alloc (below_alloc (below_alloc (Below.refl _ w) (.cells #[.string (B text)] 9)) (.cells #[.int .i64 how] 3)) (.cells #[.int .i64 (-1)] 3)))
  obtain ⟨q, hq⟩ : ∃ q : Nat, before.toNat = q := ⟨_, rfl⟩
  have HG0 := Lib.hid fun z hz => older_gives _ b0 hb lv most q z hz xs hx hp
  rw [hq]
  have HM := Lib.hid hm
  have HLL := Lib.hid hl
  have HH := Lib.hid hh
  clear hm hl hp hh
  by_cases hbf : before < 0
  · have hq0 : q = 0 := by omega
    subst hq0
    clear hq
    refine (callsIn_wide (n := 9)).1 ?_; refine callsIn_of_wp_marks Try.func55 rfl trivial ?_ rfl; simp only [Try.ntmps55, List.size_toArray, List.length_cons, List.length_nil, Nat.reduceAdd, Nat.reduceSub, Array.replicate_succ, Array.replicate_zero, List.push_toArray, List.append_toArray, List.nil_append, List.cons_append]
    refine wpIn_wide.2 ?_
    go_wp2
    go_step3
    go_wp2
    go_step3
    go_wp2_with (go_at_call 85; refine (HOL.out _ _).mono ?_; rintro e w1 ⟨rfl, rfl⟩)
    refine (wpIn_wide (n := 9)).1 ?_
    have HG := HG0.out 0 rfl
    simp only [World.size_alloc] at HG
    have HGK : Hid (∀ k, (k = w.heap.size + 1 + 1 + 1 + 1 ∨ k = w.heap.size + 1 + 1 + 1 ∨ k = hb ∨ lv.ownBlock = some k) → k < w.heap.size + 1 + 1 + 1 + 1 + 1 ∧ k ≠ w.heap.size + 1 + 1) := fun k hk => by
      have h1 := HH.out.lt
      rcases hk with rfl | rfl | rfl | e
      · exact ⟨by omega, by omega⟩
      · exact ⟨by omega, by omega⟩
      · exact ⟨by omega, by omega⟩
      · have := HH.out.own.lt k e; exact ⟨by omega, by omega⟩
    refine wpIn_iter (n := 9) (by omega) (gf := 113) rfl (enters_of Try.func113 (by kernel_rfl) rfl) HG (fun k hk => by have := (HGK.out k hk).1; simpa using this) (fun _ => rfl)
      (fun pre W => FindI w text how (isAt xs text how) pre W) (fun c pre W => c = .exit 0 ∧ FindX w (isAt xs text how) pre W)
      (fun s W W' hL h => h.lull (by simpa using hL) (by omega)) (fun c s W W' hL ⟨e, h⟩ => ⟨e, h.lull (by simpa using hL) (by omega)⟩)
      ?init
      (fun x a' W' => a' = { tmps := #[.pointer (some ⟨hb, 0, none⟩), .string (B text), .int .i64 0, .int .i64 how, undef, .pointer (some ⟨w.heap.size, 0, none⟩), undef, .pointer (some ⟨w.heap.size + 1, 0, none⟩), .int .i64 0, .bool false, .pointer (some ⟨w.heap.size + 1 + 1, 0, none⟩), .int .i64 x, .string (B ((xs[x]?).getD [])), .int .i64 before, .bool true, .pointer (some ⟨hb, 0, none⟩), .int .i64 0, .func (.func 113) #[] #[.pointer (some ⟨w.heap.size + 1 + 1 + 1 + 1, 0, none⟩), .pointer (some ⟨w.heap.size + 1 + 1 + 1, 0, none⟩)], .int .i64 x, .string (B ((xs[x]?).getD [])), undef, undef, undef, undef, undef, undef, undef, undef], defers := [] }) (fun x a' W W' hL h => h) ?assign ?body ?done ?stop
    case init =>
      refine ⟨by go_simp, by simp [go_sem], by go_simp, by go_simp, by simp, by (repeat (first | exact Below.refl _ _ | assumption | with_reducible refine below_alloc ?_ _ | with_reducible refine below_grow ?_ _ | with_reducible refine below_drewN ?_ _ | with_reducible refine below_drew ?_ | with_reducible refine below_setCell ?_ (by first | (dsimp only; omega) | (simp; done) | (simp; omega)) _)), by simp⟩
    case assign =>
      intro l pre x W K hi hs hK
      have hK := hK { tmps := #[.pointer (some ⟨hb, 0, none⟩), .string (B text), .int .i64 0, .int .i64 how, undef, .pointer (some ⟨w.heap.size, 0, none⟩), undef, .pointer (some ⟨w.heap.size + 1, 0, none⟩), .int .i64 0, .bool false, .pointer (some ⟨w.heap.size + 1 + 1, 0, none⟩), .int .i64 x, .string (B ((xs[x]?).getD [])), .int .i64 before, .bool true, .pointer (some ⟨hb, 0, none⟩), .int .i64 0, .func (.func 113) #[] #[.pointer (some ⟨w.heap.size + 1 + 1 + 1 + 1, 0, none⟩), .pointer (some ⟨w.heap.size + 1 + 1 + 1, 0, none⟩)], .int .i64 x, .string (B ((xs[x]?).getD [])), undef, undef, undef, undef, undef, undef, undef, undef], defers := [] } _ (KeepsFrom.refl _ _) (fun _ _ => rfl) hi rfl
      unfold encL at *
      have HK := Lib.hid hK
      clear hK
      gi_wp2
      exact HK.out
    case body =>
      rintro l pre x a' W hs h1 rfl hlt
      have hs' : w.heap.size + 1 + 1 + 1 + 1 + 1 ≤ W.heap.size := by simpa using hs
      have r0 := h1.r
      have z0 := h1.z
      have t0 := h1.t
      have h0 := h1.h
      have H1 := Lib.hid h1
      have HIS := Lib.hid fun W hm => is_any ((xs[x]?).getD []) text how W hm (by
        rcases Nat.lt_or_ge x xs.length with h | h
        · rw [List.getElem?_eq_getElem h]; exact HLL.out _ (List.getElem_mem h)
        · rw [List.getElem?_eq_none h]; simp) ht
      haveI : Old W (w.heap.size) := ⟨by omega⟩
      haveI : Old W (w.heap.size + 1) := ⟨by omega⟩
      haveI : Old W (w.heap.size + 1 + 1) := ⟨by omega⟩
      clear h1
      have hfx : isAt xs text how x = isB ((xs[x]?).getD []) text how := rfl
      generalize (xs[x]?).getD [] = line at *
      cases hb : isB line text how with
      | false =>
        rw [hb] at HIS
        gi_wp2
        refine (callsIn_wide.2 (HIS.out _ (HM.out.below H1.out.b))).mono ?_
        rintro e w3 ⟨rfl, hb3⟩
        have HB3 := Lib.hid hb3
        clear hb3
        gi_wp2
        refine ⟨KeepsFrom.of_keeps (Keeps.of_below (F := fun _ => False) HB3.out) (fun k hF _ _ => hF.elim), KeepG.of_below HB3.out (fun k hk => by have := (HGK.out k hk).1; omega), ?_⟩
        have h3 := H1.out.below HB3.out
        exact ⟨h3.r, h3.z, h3.t, h3.h, fun y hy => by
          rcases List.mem_append.1 hy with hy | hy
          · exact h3.a y hy
          · simp at hy; subst hy; rw [hfx]; exact hb, h3.b, h3.s⟩
      | true =>
        rw [hb] at HIS
        gi_wp2
        refine (callsIn_wide.2 (HIS.out _ (HM.out.below H1.out.b))).mono ?_
        rintro e w3 ⟨rfl, hb3⟩
        have HB3 := Lib.hid hb3
        have h3 := H1.out.below hb3
        have r3 := h3.r
        have z3 := h3.z
        have hz3 := hb3.size
        haveI : Old w3 (w.heap.size + 1 + 1) := ⟨by omega⟩
        have H3 := Lib.hid h3
        clear hb3 h3
        gi_wp2
        have hS := Keeps.setCell (F := fun k => k = w.heap.size + 1 + 1) w3 (a := ⟨w.heap.size + 1 + 1, 0, none⟩) rfl (.int .i64 x)
        have hS2 := (Keeps.of_below (F := fun k => k = w.heap.size + 1 + 1) HB3.out).trans hS
        refine ⟨KeepsFrom.of_keeps hS2 (fun k hF _ hA => by simp at hA; omega), rfl, ⟨⟨pre, x, rfl, H1.out.a, by rw [hfx]; exact hb, World.cell?_setCell_same' _ _ _ (by rw [r3]; rfl)⟩, below_keeps H1.out.b hS2 (fun k hk => by omega), Nat.le_trans H1.out.s hS2.size⟩⟩
    case done =>
      rintro D W hD h1 hK
      have hD' : w.heap.size + 1 + 1 + 1 + 1 + 1 ≤ D := by simpa using hD
      have r0 := h1.r
      have hs' := h1.s
      haveI : Old W (w.heap.size + 1 + 1) := ⟨by omega⟩
      have HLN := Lib.hid (lastN_none _ _ h1.a)
      have hL : Lull (w.heap.size + 1 + 1 + 1 + 1 + 1) W (W.putObj D (.deferred none)) := Lull.of_grown (grownBy_putObj' _ D _) (fun r e => by cases e; exact ⟨hD', _, hK, rfl⟩)
      have hB2 := hL.below h1.b (by omega) (Nat.le_refl _)
      clear h1
      gi_wp2
      go_wp2
      rw [Exit.noGoto_ret]
      refine ⟨by simp, .inl ⟨_, _, rfl, run_takeDeferred hK, ?_⟩⟩
      refine ⟨_, results_tmp2 rfl _ _ _, ?_, hB2⟩
      rw [HLN.out, if_pos (by decide)]
      rfl
    case stop =>
      rintro D c pre W hD hpre ⟨rfl, hx⟩ hK
      have hD' : w.heap.size + 1 + 1 + 1 + 1 + 1 ≤ D := by simpa using hD
      obtain ⟨p, i, rfl, hp, hi, r0⟩ := hx.x
      have hs' := hx.s
      haveI : Old W (w.heap.size + 1 + 1) := ⟨by omega⟩
      have HLN := Lib.hid (lastN_some _ _ _ _ hpre hp hi)
      have hL : Lull (w.heap.size + 1 + 1 + 1 + 1 + 1) W (W.putObj D (.deferred none)) := Lull.of_grown (grownBy_putObj' _ D _) (fun r e => by cases e; exact ⟨hD', _, hK, rfl⟩)
      have hB2 := hL.below hx.b (by omega) (Nat.le_refl _)
      have i0 := no (show ¬ (i : Int) < 0 by omega)
      clear hx hp hi
      gi_wp2
      go_wp2
      rw [Exit.noGoto_ret]
      refine ⟨by simp, .inl ⟨_, _, rfl, run_takeDeferred hK, ?_⟩⟩
      refine ⟨_, results_tmp2 rfl _ _ _, ?_, hB2⟩
      rw [HLN.out, if_neg (by omega)]
      rfl
  · obtain rfl : before = (q : Int) := by omega
    have q0 := no hbf
    clear hbf hq
    refine (callsIn_wide (n := 9)).1 ?_; refine callsIn_of_wp_marks Try.func55 rfl trivial ?_ rfl; simp only [Try.ntmps55, List.size_toArray, List.length_cons, List.length_nil, Nat.reduceAdd, Nat.reduceSub, Array.replicate_succ, Array.replicate_zero, List.push_toArray, List.append_toArray, List.nil_append, List.cons_append]
    refine wpIn_wide.2 ?_
    go_wp2
    go_step3
    go_wp2
    go_step3
    go_wp2_with (go_at_call 85; refine (HOL.out _ _).mono ?_; rintro e w1 ⟨rfl, rfl⟩)
    refine (wpIn_wide (n := 9)).1 ?_
    have HG := HG0.out q rfl
    simp only [World.size_alloc] at HG
    have HGK : Hid (∀ k, (k = w.heap.size + 1 + 1 + 1 + 1 ∨ k = w.heap.size + 1 + 1 + 1 ∨ k = hb ∨ lv.ownBlock = some k) → k < w.heap.size + 1 + 1 + 1 + 1 + 1 ∧ k ≠ w.heap.size + 1 + 1) := fun k hk => by
      have h1 := HH.out.lt
      rcases hk with rfl | rfl | rfl | e
      · exact ⟨by omega, by omega⟩
      · exact ⟨by omega, by omega⟩
      · exact ⟨by omega, by omega⟩
      · have := HH.out.own.lt k e; exact ⟨by omega, by omega⟩
    refine wpIn_iter (n := 9) (by omega) (gf := 113) rfl (enters_of Try.func113 (by kernel_rfl) rfl) HG (fun k hk => by have := (HGK.out k hk).1; simpa using this) (fun _ => rfl)
      (fun pre W => FindI w text how (isAt xs text how) pre W) (fun c pre W => c = .exit 0 ∧ FindX w (isAt xs text how) pre W)
      (fun s W W' hL h => h.lull (by simpa using hL) (by omega)) (fun c s W W' hL ⟨e, h⟩ => ⟨e, h.lull (by simpa using hL) (by omega)⟩)
      ?init
      (fun x a' W' => a' = { tmps := #[.pointer (some ⟨hb, 0, none⟩), .string (B text), .int .i64 q, .int .i64 how, undef, .pointer (some ⟨w.heap.size, 0, none⟩), undef, .pointer (some ⟨w.heap.size + 1, 0, none⟩), .int .i64 0, .bool false, .pointer (some ⟨w.heap.size + 1 + 1, 0, none⟩), .int .i64 x, .string (B ((xs[x]?).getD [])), .int .i64 q, .bool false, .pointer (some ⟨hb, 0, none⟩), .int .i64 q, .func (.func 113) #[] #[.pointer (some ⟨w.heap.size + 1 + 1 + 1 + 1, 0, none⟩), .pointer (some ⟨w.heap.size + 1 + 1 + 1, 0, none⟩)], .int .i64 x, .string (B ((xs[x]?).getD [])), undef, undef, undef, undef, undef, undef, undef, undef], defers := [] }) (fun x a' W W' hL h => h) ?assign ?body ?done ?stop
    case init =>
      refine ⟨by go_simp, by simp [go_sem], by go_simp, by go_simp, by simp, by (repeat (first | exact Below.refl _ _ | assumption | with_reducible refine below_alloc ?_ _ | with_reducible refine below_grow ?_ _ | with_reducible refine below_drewN ?_ _ | with_reducible refine below_drew ?_ | with_reducible refine below_setCell ?_ (by first | (dsimp only; omega) | (simp; done) | (simp; omega)) _)), by simp⟩
    case assign =>
      intro l pre x W K hi hs hK
      have hK := hK { tmps := #[.pointer (some ⟨hb, 0, none⟩), .string (B text), .int .i64 q, .int .i64 how, undef, .pointer (some ⟨w.heap.size, 0, none⟩), undef, .pointer (some ⟨w.heap.size + 1, 0, none⟩), .int .i64 0, .bool false, .pointer (some ⟨w.heap.size + 1 + 1, 0, none⟩), .int .i64 x, .string (B ((xs[x]?).getD [])), .int .i64 q, .bool false, .pointer (some ⟨hb, 0, none⟩), .int .i64 q, .func (.func 113) #[] #[.pointer (some ⟨w.heap.size + 1 + 1 + 1 + 1, 0, none⟩), .pointer (some ⟨w.heap.size + 1 + 1 + 1, 0, none⟩)], .int .i64 x, .string (B ((xs[x]?).getD [])), undef, undef, undef, undef, undef, undef, undef, undef], defers := [] } _ (KeepsFrom.refl _ _) (fun _ _ => rfl) hi rfl
      unfold encL at *
      have HK := Lib.hid hK
      clear hK
      gi_wp2
      exact HK.out
    case body =>
      rintro l pre x a' W hs h1 rfl hlt
      have hs' : w.heap.size + 1 + 1 + 1 + 1 + 1 ≤ W.heap.size := by simpa using hs
      have r0 := h1.r
      have z0 := h1.z
      have t0 := h1.t
      have h0 := h1.h
      have H1 := Lib.hid h1
      have HIS := Lib.hid fun W hm => is_any ((xs[x]?).getD []) text how W hm (by
        rcases Nat.lt_or_ge x xs.length with h | h
        · rw [List.getElem?_eq_getElem h]; exact HLL.out _ (List.getElem_mem h)
        · rw [List.getElem?_eq_none h]; simp) ht
      haveI : Old W (w.heap.size) := ⟨by omega⟩
      haveI : Old W (w.heap.size + 1) := ⟨by omega⟩
      haveI : Old W (w.heap.size + 1 + 1) := ⟨by omega⟩
      clear h1
      have hfx : isAt xs text how x = isB ((xs[x]?).getD []) text how := rfl
      generalize (xs[x]?).getD [] = line at *
      cases hb : isB line text how with
      | false =>
        rw [hb] at HIS
        gi_wp2
        refine (callsIn_wide.2 (HIS.out _ (HM.out.below H1.out.b))).mono ?_
        rintro e w3 ⟨rfl, hb3⟩
        have HB3 := Lib.hid hb3
        clear hb3
        gi_wp2
        refine ⟨KeepsFrom.of_keeps (Keeps.of_below (F := fun _ => False) HB3.out) (fun k hF _ _ => hF.elim), KeepG.of_below HB3.out (fun k hk => by have := (HGK.out k hk).1; omega), ?_⟩
        have h3 := H1.out.below HB3.out
        exact ⟨h3.r, h3.z, h3.t, h3.h, fun y hy => by
          rcases List.mem_append.1 hy with hy | hy
          · exact h3.a y hy
          · simp at hy; subst hy; rw [hfx]; exact hb, h3.b, h3.s⟩
      | true =>
        rw [hb] at HIS
        gi_wp2
        refine (callsIn_wide.2 (HIS.out _ (HM.out.below H1.out.b))).mono ?_
        rintro e w3 ⟨rfl, hb3⟩
        have HB3 := Lib.hid hb3
        have h3 := H1.out.below hb3
        have r3 := h3.r
        have z3 := h3.z
        have hz3 := hb3.size
        haveI : Old w3 (w.heap.size + 1 + 1) := ⟨by omega⟩
        have H3 := Lib.hid h3
        clear hb3 h3
        gi_wp2
        have hS := Keeps.setCell (F := fun k => k = w.heap.size + 1 + 1) w3 (a := ⟨w.heap.size + 1 + 1, 0, none⟩) rfl (.int .i64 x)
        have hS2 := (Keeps.of_below (F := fun k => k = w.heap.size + 1 + 1) HB3.out).trans hS
        refine ⟨KeepsFrom.of_keeps hS2 (fun k hF _ hA => by simp at hA; omega), rfl, ⟨⟨pre, x, rfl, H1.out.a, by rw [hfx]; exact hb, World.cell?_setCell_same' _ _ _ (by rw [r3]; rfl)⟩, below_keeps H1.out.b hS2 (fun k hk => by omega), Nat.le_trans H1.out.s hS2.size⟩⟩
    case done =>
      rintro D W hD h1 hK
      have hD' : w.heap.size + 1 + 1 + 1 + 1 + 1 ≤ D := by simpa using hD
      have r0 := h1.r
      have hs' := h1.s
      haveI : Old W (w.heap.size + 1 + 1) := ⟨by omega⟩
      have HLN := Lib.hid (lastN_none _ _ h1.a)
      have hL : Lull (w.heap.size + 1 + 1 + 1 + 1 + 1) W (W.putObj D (.deferred none)) := Lull.of_grown (grownBy_putObj' _ D _) (fun r e => by cases e; exact ⟨hD', _, hK, rfl⟩)
      have hB2 := hL.below h1.b (by omega) (Nat.le_refl _)
      clear h1
      gi_wp2
      go_wp2
      rw [Exit.noGoto_ret]
      refine ⟨by simp, .inl ⟨_, _, rfl, run_takeDeferred hK, ?_⟩⟩
      refine ⟨_, results_tmp2 rfl _ _ _, ?_, hB2⟩
      rw [HLN.out, if_pos (by decide)]
      rfl
    case stop =>
      rintro D c pre W hD hpre ⟨rfl, hx⟩ hK
      have hD' : w.heap.size + 1 + 1 + 1 + 1 + 1 ≤ D := by simpa using hD
      obtain ⟨p, i, rfl, hp, hi, r0⟩ := hx.x
      have hs' := hx.s
      haveI : Old W (w.heap.size + 1 + 1) := ⟨by omega⟩
      have HLN := Lib.hid (lastN_some _ _ _ _ hpre hp hi)
      have hL : Lull (w.heap.size + 1 + 1 + 1 + 1 + 1) W (W.putObj D (.deferred none)) := Lull.of_grown (grownBy_putObj' _ D _) (fun r e => by cases e; exact ⟨hD', _, hK, rfl⟩)
      have hB2 := hL.below hx.b (by omega) (Nat.le_refl _)
      have i0 := no (show ¬ (i : Int) < 0 by omega)
      clear hx hp hi
      gi_wp2
      go_wp2
      rw [Exit.noGoto_ret]
      refine ⟨by simp, .inl ⟨_, _, rfl, run_takeDeferred hK, ?_⟩⟩
      refine ⟨_, results_tmp2 rfl _ _ _, ?_, hB2⟩
      rw [HLN.out, if_neg (by omega)]
      rfl
end Go.Proofs.Yteojepadhonbiaa
