/-
  The reference's rows of files (layer 18): Kind, Make. Conditions: paths of at most 2^30 bytes; fewer than 10000 files.
-/
import Derived.Test.YtnecmpgcjgkheaaGreatTreePlain3
import Derived.Test.YtnecmpgcjgkheaaGreatFil6
set_option linter.unusedSimpArgs false
set_option linter.unusedVariables false
namespace Go.Proofs.YtnecmpgcjgkheaaGreat.Fil
open Go.ChangeShapes Go.WideShapes Go.Deep Go.RowKit Pat
set_option maxRecDepth 100000
theorem kindL_at {l : List Fl} {p : List UInt8} {k : Nat} {f : Fl} (hp : p ≠ [47]) (hk : l[k]? = some f) (he : f.path = p) (hb : ∀ j g, j < k → l[j]? = some g → g.path ≠ p) : kindL l p = f.kind := by
  unfold kindL
  rw [if_neg hp]
  have : l.find? (fun f => f.path == p) = some f := by
    obtain ⟨h1, h2⟩ := List.getElem?_eq_some_iff.1 hk
    rw [List.find?_eq_some_iff_getElem]
    refine ⟨by simpa using he, k, h1, h2, fun j hj => ?_⟩
    have := hb j l[j] hj (List.getElem?_eq_getElem _)
    simpa using this
  rw [this]
theorem kindL_no {l : List Fl} {p : List UInt8} (hp : p ≠ [47]) (hb : ∀ j g, j < l.length → l[j]? = some g → g.path ≠ p) : kindL l p = 0 := by
  unfold kindL
  rw [if_neg hp]
  have : l.find? (fun f => f.path == p) = none := by
    rw [List.find?_eq_none]
    intro f hf
    obtain ⟨j, hj⟩ := List.mem_iff_getElem?.1 hf
    have := hb j f (List.getElem?_eq_some_iff.1 hj).1 hj
    simpa using this
  rw [this]
set_option maxHeartbeats 1600000 in
theorem refKind_any (l : List Fl) (v : Value) (p : List UInt8) (w : World) (h : Sl w flC 2 v l) (hl : l.length ≤ 1048576) : Calls Tryz.prog 37 #[v, .string (B p)] w fun e w' => e = .returned (.int .i64 (kindL l p)) ∧ w = w' := by
  by_cases n1 : p = [47]
  · subst n1
    go_enter Tryz.func37, Tryz.ntmps37
    go_wp2
    go_ret
    exact ⟨rfl, rfl⟩
  have n2 : (p == [47]) = false := by rw [beq_eq_false_iff_ne]; exact n1
  obtain ⟨A, c, rfl, h1, h2, hn0, hA⟩ := h
  have HA := Lib.hid hA
  have HAT := Lib.hid fun k f => kindL_at (l := l) (p := p) (k := k) (f := f) n1
  have HNO := Lib.hid (kindL_no (l := l) (p := p) n1)
  clear hA n1 hn0 h1 h2
  go_enter Tryz.func37, Tryz.ntmps37
  go_wp2
  go_loopw [5] (fun i w' => ∃ (k : Nat), k ≤ l.length ∧ i = .int .i64 k ∧ w = w' ∧ Hid (∀ j g, j < k → l[j]? = some g → g.path ≠ p)) (fun i _ => l.length - (intOf i).toNat)
  case atStart => exact ⟨0, by omega, rfl, rfl, fun j g hj => by omega⟩
  case round =>
    obtain ⟨k, hk, rfl, rfl, HB⟩ := hrel
    by_cases hlt : k < l.length
    · obtain ⟨b, off, rfl, hb, hc⟩ := HA.out (by omega)
      obtain ⟨x, hxm⟩ := get_some hlt
      have e0 : w.cell? ⟨b, off + k * 2, none⟩ = some (.string (B x.path)) := by have := hc k _ hxm 0 _ rfl; simpa using this
      have e1 : w.cell? ⟨b, off + k * 2 + 1, none⟩ = some (.int .i64 x.kind) := hc k _ hxm 1 _ rfl
      have k0 : (0 : Int) ≤ (k : Int) := by omega
      have k1 : (k : Int) < (l.length : Int) := by omega
      have HX := Lib.hid hxm
      clear hc hxm
      by_cases q : x.path = p
      · have HR := Lib.hid (HAT.out k x HX.out q HB.out)
        have q1 : (x.path == p) = true := by simpa using q
        clear q
        go_wp2
        go_ret
        exact ⟨by rw [HR.out]; rfl, rfl⟩
      · have HQ := Lib.hid q
        have q1 : (x.path == p) = false := by simpa using q
        clear q
        go_wp2
        go_roundw
        case rel =>
          refine ⟨k + 1, by omega, by go_num, trivial, fun j g hj hg => ?_⟩
          rcases Nat.lt_or_ge j k with z | z
          · exact HB.out j g z hg
          · have : j = k := by omega
            subst this
            rw [HX.out] at hg
            cases hg
            exact HQ.out
        case measure => simp [intOf]; omega
    · have hk2 : k = l.length := by omega
      subst hk2
      have d0 := no hlt
      have HR := Lib.hid (HNO.out HB.out)
      clear hlt
      go_wp2
      go_ret
      exact ⟨by rw [HR.out]; rfl, rfl⟩
theorem flC_one {xs : List Fl} : ∀ u ∈ xs.flatMap flC, u.oneCell' = true := by
  intro u hu
  obtain ⟨x, _, hx⟩ := List.mem_flatMap.1 hu
  simp [flC] at hx
  rcases hx with rfl | rfl <;> rfl
/-- What the reference's Make returns. -/
def MkP (u : Value) (m : Nat) (y : List Fl) (n : Int) (w : World) (e : Ending) (w' : World) : Prop := ∃ v, e = .returned (.tuple #[v, .int .i64 n]) ∧ Sl w' flC 2 v y ∧ Below w.heap.size w w' ∧ (0 < y.length → ∀ k, v.ownBlock = some k → (u.ownBlock = some k ∧ 0 < m) ∨ w.heap.size ≤ k)
theorem own_fresh {w : World} {b0 sz n : Nat} {v : Value} {xs : List Value} (h : Own w b0 sz v n xs) (hn : 0 < n) : ∀ k, v.ownBlock = some k → b0 ≤ k := by
  obtain ⟨g, off, c, rfl, hb, _⟩ := h.form' hn
  intro k hk
  simp only [Value.ownBlock, Option.map_some, Option.some.injEq] at hk
  omega
set_option maxHeartbeats 3200000 in
theorem refMake_any (x : List Fl) (v : Value) (p : List UInt8) (k : Int) (w : World) (h : Sl w flC 2 v x) (hx : x.length < 10000) (hl : p.length ≤ 1073741824) : Calls Tryz.prog 19 #[v, .string (B p), .int .i64 k] w (MkP v x.length (makeL x p k) (makeN x p k) w) := by
  obtain ⟨i0, hi0, hz00, hz01, hz02⟩ := info_parts info_file
  have HIP := Lib.hid (refIsPath_any p w hl)
  have HKD := Lib.hid fun W (hW : Below w.heap.size w W) => refKind_any x v p W (h.below hW) (by omega)
  have HDR := Lib.hid fun W => refDir_any p W hl
  have HKU := Lib.hid fun W (hW : Below w.heap.size w W) => refKind_any x v (dirL p) W (h.below hW) (by omega)
  have HS := Lib.hid h
  obtain ⟨A, c, rfl, h1, h2, hn0, hA⟩ := h
  clear hA hn0 h1 h2
  unfold makeL
  have hmn : makeN x p k = if pathB p = true then (if k < 1 ∨ 3 < k then 8 else if kindL x p ≠ 0 then 6 else if kindL x (dirL p) = 0 then 3 else if kindL x (dirL p) ≠ 1 then 11 else if 10000 ≤ x.length then 12 else 0) else 10 := rfl
  generalize makeN x p k = nn at hmn ⊢
  cases hp : pathB p with
  | false =>
    rw [hp] at HIP
    rw [hp, if_neg (by simp)] at hmn
    subst hmn
    clear hp
    go_enter Tryz.func19, Tryz.ntmps19
    go_wp2_with (go_at_call 16; refine HIP.out.mono ?_; rintro e w1 ⟨rfl, hb⟩; have HB := Lib.hid hb; clear hb)
    go_ret2
    exact ⟨_, rfl, HS.out.below HB.out, HB.out, fun hpos k hk => .inl ⟨hk, hpos⟩⟩
  | true =>
  rw [hp] at HIP
  rw [hp, if_pos rfl] at hmn
  clear hp
  by_cases k1 : k < 1
  · rw [if_pos (.inl k1)] at hmn
    subst hmn
    go_enter Tryz.func19, Tryz.ntmps19
    go_wp2_with (go_at_call 16; refine HIP.out.mono ?_; rintro e w1 ⟨rfl, hb⟩; have HB := Lib.hid hb; clear hb)
    go_ret2
    exact ⟨_, rfl, HS.out.below HB.out, HB.out, fun hpos k hk => .inl ⟨hk, hpos⟩⟩
  by_cases k2 : 3 < k
  · rw [if_pos (.inr k2)] at hmn
    subst hmn
    have d1 := no k1
    clear k1
    go_enter Tryz.func19, Tryz.ntmps19
    go_wp2_with (go_at_call 16; refine HIP.out.mono ?_; rintro e w1 ⟨rfl, hb⟩; have HB := Lib.hid hb; clear hb)
    go_ret2
    exact ⟨_, rfl, HS.out.below HB.out, HB.out, fun hpos k hk => .inl ⟨hk, hpos⟩⟩
  rw [if_neg (by omega)] at hmn
  have d1 := no k1
  have d2 := no k2
  clear k1 k2
  generalize kindL x p = kp at *
  generalize kindL x (dirL p) = ku at *
  by_cases q1 : kp = 0
  · rw [if_neg (by simp [q1])] at hmn
    subst q1
    by_cases q2 : ku = 0
    · rw [if_pos q2] at hmn
      subst q2 hmn
      go_enter Tryz.func19, Tryz.ntmps19
      go_wp2_with (first
        | (go_at_call 16; refine HIP.out.mono ?_; rintro e w1 ⟨rfl, hb⟩; have HB := Lib.hid hb; clear hb)
        | (go_at_call 37; (with_reducible refine (HKD.out _ HB.out).mono ?_); rintro e w2 ⟨rfl, rfl⟩)
        | (go_at_call 38; refine (HDR.out _).mono ?_; rintro e w2 ⟨rfl, rfl⟩)
        | (go_at_call 37; (with_reducible refine (HKU.out _ HB.out).mono ?_); rintro e w2 ⟨rfl, rfl⟩))
      go_ret2
      exact ⟨_, rfl, HS.out.below HB.out, HB.out, fun hpos k hk => .inl ⟨hk, hpos⟩⟩
    · rw [if_neg q2] at hmn
      have e2 : (ku == 0) = false := by simpa using q2
      by_cases q3 : ku = 1
      · rw [if_neg (by simp [q3]), if_neg (by omega)] at hmn
        subst q3 hmn
        have d4 := no (show ¬ (10000 : Int) ≤ (x.length : Int) by omega)
        rw [if_pos rfl]
        clear q2
        go_enter Tryz.func19, Tryz.ntmps19
        go_wp2_with (first
          | (go_at_call 16; refine HIP.out.mono ?_; rintro e w1 ⟨rfl, hb⟩; have HB := Lib.hid hb; clear hb; have hz1 := HB.out.size)
          | (go_at_call 37; (with_reducible refine (HKD.out _ HB.out).mono ?_); rintro e w2 ⟨rfl, rfl⟩)
          | (go_at_call 38; refine (HDR.out _).mono ?_; rintro e w2 ⟨rfl, rfl⟩)
          | (go_at_call 37; (with_reducible refine (HKU.out _ HB.out).mono ?_); rintro e w2 ⟨rfl, rfl⟩)
          | ((at_builtin; refine wpList_append_src _ rfl (.tmp 39) (.tmp 40) _ rfl w.heap.size 34 i0 _ 2 24 Tryz.underlying22 hi0 hz00 hz01 hz02 rfl (by decide) _ 0 [] rfl (Own.none_ _ _ _ _ _ (by simp)) _ x.length (x.flatMap flC) rfl (flC_flat x) (((HS.out.below HB.out).below (by (repeat (first | exact Below.refl _ _ | assumption | with_reducible refine below_alloc ?_ _ | with_reducible refine below_grow ?_ _ | with_reducible refine below_drewN ?_ _ | with_reducible refine below_drew ?_ | with_reducible refine below_setCell ?_ (by first | (dsimp only; omega) | (simp; done) | (simp; omega)) _)))).src flC_len) flC_one (by unfold maxLen; omega) (by omega) (by first | (simp; done) | omega | (simp; omega)) ?_; intro v2 w2 hown2 hg2 hat2 hty2; have HTY2 := Lib.hid hty2; clear hty2); have HO2 := Lib.hid hown2; have HB2 := Lib.hid (below_keeps (below_alloc HB.out _) hg2 (fun k hk => hk.2)); clear hown2 hg2 hat2; have hz2 := HB2.out.size)
          | ((at_builtin; refine wpList_append_src _ rfl (.tmp 41) (.tmp 45) _ rfl w.heap.size 34 i0 _ 2 24 Tryz.underlying22 hi0 hz00 hz01 hz02 rfl (by decide) _ (0 + x.length) ([] ++ x.flatMap flC) rfl (HO2.out.below (by (repeat (first | exact Below.refl _ _ | assumption | with_reducible refine below_alloc ?_ _ | with_reducible refine below_grow ?_ _ | with_reducible refine below_drewN ?_ _ | with_reducible refine below_drew ?_ | with_reducible refine below_setCell ?_ (by first | (dsimp only; omega) | (simp; done) | (simp; omega)) _)))) _ 1 (flC ⟨p, k⟩) rfl rfl (Src.one _ _ _ _) (by simp [flC, Value.oneCell']) (by unfold maxLen; omega) (by omega) (by first | (simp; done) | omega | (simp; omega)) ?_; intro v3 w3 hown3 hg3 hat3 hty3; have HTY3 := Lib.hid hty3; clear hty3); have HO3 := Lib.hid hown3; have HB3 := Lib.hid (below_keeps (below_alloc HB2.out _) hg3 (fun k hk => hk.2)); clear hown3 hg3 hat3))
        go_ret2
        refine ⟨_, rfl, ?_, HB3.out, fun _ k hk => .inr (own_fresh HO3.out (by omega) k hk)⟩
        have ho := HO3.out
        rw [List.nil_append, Nat.zero_add, show x.flatMap flC ++ flC ⟨p, k⟩ = (x ++ [(⟨p, k⟩ : Fl)]).flatMap flC by simp [List.flatMap_append]] at ho
        exact ho.sl flC_len (by simp)
      · rw [if_pos q3] at hmn
        subst hmn
        have e3 : (ku != 1) = true := by simpa using q3
        clear q2 q3
        go_enter Tryz.func19, Tryz.ntmps19
        go_wp2_with (first
          | (go_at_call 16; refine HIP.out.mono ?_; rintro e w1 ⟨rfl, hb⟩; have HB := Lib.hid hb; clear hb)
          | (go_at_call 37; (with_reducible refine (HKD.out _ HB.out).mono ?_); rintro e w2 ⟨rfl, rfl⟩)
          | (go_at_call 38; refine (HDR.out _).mono ?_; rintro e w2 ⟨rfl, rfl⟩)
          | (go_at_call 37; (with_reducible refine (HKU.out _ HB.out).mono ?_); rintro e w2 ⟨rfl, rfl⟩))
        go_ret2
        exact ⟨_, rfl, HS.out.below HB.out, HB.out, fun hpos k hk => .inl ⟨hk, hpos⟩⟩
  · rw [if_pos q1] at hmn
    subst hmn
    have e1 : (kp != 0) = true := by simpa using q1
    clear q1
    go_enter Tryz.func19, Tryz.ntmps19
    go_wp2_with (first
      | (go_at_call 16; refine HIP.out.mono ?_; rintro e w1 ⟨rfl, hb⟩; have HB := Lib.hid hb; clear hb)
      | (go_at_call 37; (with_reducible refine (HKD.out _ HB.out).mono ?_); rintro e w2 ⟨rfl, rfl⟩))
    go_ret2
    exact ⟨_, rfl, HS.out.below HB.out, HB.out, fun hpos k hk => .inl ⟨hk, hpos⟩⟩
end Go.Proofs.YtnecmpgcjgkheaaGreat.Fil
