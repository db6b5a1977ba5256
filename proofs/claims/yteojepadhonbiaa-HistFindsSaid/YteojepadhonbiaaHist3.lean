/-
  The walks of layer 30 (hist), on: the reference's Add, New, few, awake. Conditions: at most 2^20 lines.
-/
import Derived.Test.YteojepadhonbiaaHist2
namespace Go.Proofs.Yteojepadhonbiaa
open Go.ChangeShapes Go.WideShapes Go.Deep Go.RowKit
structure RefAddPost (v : Value) (most : Nat) (xs : List (List UInt8)) (line : List UInt8) (w : World) (e : Ending) (w' : World) : Prop where
  e : ∃ u, e = .returned (.tuple #[u, .int .i64 (if wantB xs line then 1 else 0)]) ∧ Sl w' strC 1 u (addL xs line most) ∧ (u = v ∨ ∀ k, u.ownBlock = some k → w.heap.size ≤ k ∧ k < w'.heap.size)
  k : Below w.heap.size w w'
theorem refAdd_no {v : Value} {most : Nat} {xs : List (List UInt8)} {line : List UInt8} {w w' : World} (hv : Sl w strC 1 v xs) (h : wantB xs line = false) (hb : Below w.heap.size w w') : RefAddPost v most xs line w (.returned (.tuple #[v, .int .i64 0])) w' :=
  ⟨⟨v, by rw [h]; rfl, by unfold addL; rw [h]; exact hv.below hb, .inl rfl⟩, hb⟩
set_option maxRecDepth 100000 in
set_option maxHeartbeats 1600000 in
theorem refAdd_any (w : World) (v : Value) (most : Nat) (xs : List (List UInt8)) (line : List UInt8) (hv : Sl w strC 1 v xs) (hx : xs.length ≤ 1048575) (hm : 1 ≤ most) :
    Calls Try.prog 54 #[v, .string (B line), .int .i64 most] w (RefAddPost v most xs line w) := by
  obtain ⟨i0, hi0, hz00, hz01, hz02⟩ := info_parts info_str
  have hv' := hv
  have hs := hv.src strC_len
  obtain ⟨A, c, rfl, hc1, hc2, hn, hA⟩ := hv'
  have HV := Lib.hid hv
  have HS := Lib.hid hs
  have HA := Lib.hid hA
  clear hv hs hA hn
  have hbr := Below.refl w.heap.size w
  have Hbr := Lib.hid hbr
  clear hbr
  cases line with
  | nil =>
    clear hi0 hz00 hz01 hz02
    go_enter Try.func54, Try.ntmps54
    go_wp2
    go_ret2
    exact refAdd_no HV.out rfl Hbr.out
  | cons d r =>
    by_cases h32 : d = 32
    · subst h32
      clear hi0 hz00 hz01 hz02
      go_enter Try.func54, Try.ntmps54
      go_wp2
      go_ret2
      exact refAdd_no HV.out rfl Hbr.out
    by_cases h9 : d = 9
    · subst h9
      clear hi0 hz00 hz01 hz02
      go_enter Try.func54, Try.ntmps54
      go_wp2
      go_ret2
      exact refAdd_no HV.out rfl Hbr.out
    have n32 : ((d.toNat : Int) == 32) = false := by
      rw [beq_eq_false_iff_ne]; intro e; exact h32 (UInt8.toNat_inj.1 (by simpa using (by omega : d.toNat = 32)))
    have n9 : ((d.toNat : Int) == 9) = false := by
      rw [beq_eq_false_iff_ne]; intro e; exact h9 (UInt8.toNat_inj.1 (by simpa using (by omega : d.toNat = 9)))
    have hcw : (d != 32 && d != 9) = true := by simp [h32, h9]
    have Hcw := Lib.hid hcw
    clear hcw h32 h9
    obtain ⟨n, hn⟩ : ∃ n, n = xs.length := ⟨_, rfl⟩
    rw [← hn] at HV HS HA hx hc1 ⊢
    have Hn := Lib.hid hn
    clear hn
    by_cases h0 : 0 < n
    · obtain ⟨b, off, rfl, hb, hc⟩ := HA.out h0
      obtain ⟨ys, y, hy⟩ : ∃ ys y, xs = ys ++ [y] := by
        rcases List.eq_nil_or_concat xs with h | ⟨ys, y, h⟩
        · have := Hn.out; rw [h] at this; simp at this; omega
        · exact ⟨ys, y, by rw [h, List.concat_eq_append]⟩
      obtain ⟨m, rfl⟩ : ∃ m, n = m + 1 := ⟨n - 1, by omega⟩
      have hyl : ys.length = m := by have := Hn.out; rw [hy] at this; simp at this; omega
      have e0 : w.cell? ⟨b, off + m, none⟩ = some (.string (B y)) := by
        have := hc m y (by rw [hy, ← hyl]; simp) 0 _ rfl
        simpa using this
      have v1 : IntKind.i64.wrap (m : Int) = (m : Int) := IntWalk.i64_in _ (by omega)
      have v2 : (0 : Int) < (m : Int) + 1 := by omega
      have hwt : wantB xs (d :: r) = !(y == d :: r) := by rw [hy]; simp [wantB, Hcw.out]
      clear hc hyl h0 HA
      have Hy := Lib.hid hy
      clear hy
      by_cases hyd : y = d :: r
      · have hyd' : (y == d :: r) = true := by simp [hyd]
        have Hw := Lib.hid (show wantB xs (d :: r) = false by rw [hwt, hyd']; rfl)
        clear hwt hyd hi0 hz00 hz01 hz02
        go_enter Try.func54, Try.ntmps54
        go_wp2
        go_ret2
        exact refAdd_no HV.out Hw.out Hbr.out
      · have hyd' : (y == d :: r) = false := by simp [hyd]
        have Hw := Lib.hid (show wantB xs (d :: r) = true by rw [hwt, hyd']; rfl)
        clear hwt hyd
        by_cases hlen : most < m + 1 + 1
        · have hn1 : 1 ≤ m + 1 := by omega
          go_enter Try.func54, Try.ntmps54
          go_wp2_with (first | ((at_builtin; refine wpList_append_src _ rfl (.tmp 37) (.tmp 38) _ rfl w.heap.size 9 i0 _ 1 16 Try.underlying31 hi0 hz00 hz01 hz02 rfl (by decide) _ 0 [] rfl (Own.none_ _ _ _ _ _ (by simp)) _ (m + 1) (xs.flatMap strC) rfl (by rw [strC_flat, Nat.mul_one, Hn.out]) (HS.out.below (by (repeat (first | exact Below.refl _ _ | assumption | with_reducible refine below_alloc ?_ _ | with_reducible refine below_grow ?_ _ | with_reducible refine below_drewN ?_ _ | with_reducible refine below_drew ?_ | with_reducible refine below_setCell ?_ (by first | (dsimp only; omega) | (simp; done) | (simp; omega)) _)))) strC_one (by unfold maxLen; omega) (by omega) (by first | (simp; done) | omega | (simp; omega)) ?_; intro v1 w1 hown1 hg1 hat1 hty1; have HTY1 := Lib.hid hty1; clear hty1); simp only [Nat.zero_add, List.nil_append] at hown1; have hb1 : Below w.heap.size w w1 := below_keeps (by (repeat (first | exact Below.refl _ _ | assumption | with_reducible refine below_alloc ?_ _ | with_reducible refine below_grow ?_ _ | with_reducible refine below_drewN ?_ _ | with_reducible refine below_drew ?_ | with_reducible refine below_setCell ?_ (by first | (dsimp only; omega) | (simp; done) | (simp; omega)) _))) hg1 (fun k hk => hk.2); have hz1 := hb1.size; have Hown1 := Lib.hid hown1; have Hb1 := Lib.hid hb1; have Hat1 := Lib.hid hat1; clear hown1 hb1 hat1 hg1) | ((at_builtin; refine wpList_append_src _ rfl (.tmp 39) (.tmp 41) _ rfl w.heap.size 9 i0 _ 1 16 Try.underlying31 hi0 hz00 hz01 hz02 rfl (by decide) _ (m + 1) (xs.flatMap strC) rfl (Hown1.out.below (by (repeat (first | exact Below.refl _ _ | assumption | with_reducible refine below_alloc ?_ _ | with_reducible refine below_grow ?_ _ | with_reducible refine below_drewN ?_ _ | with_reducible refine below_drew ?_ | with_reducible refine below_setCell ?_ (by first | (dsimp only; omega) | (simp; done) | (simp; omega)) _)))) _ 1 [.string (B (d :: r))] rfl rfl (Src.one _ _ _ _) (by simp [Value.oneCell']) (by unfold maxLen; omega) (by omega) (by first | (simp; done) | omega | (simp; omega)) ?_; intro v2 w2 hown2 hg2 hat2 hty2; have HTY2 := Lib.hid hty2; clear hty2); obtain ⟨g2, off2, c2, rfl, q1, q2, q3, q4⟩ := hown2.form; have Hown2 := Lib.hid hown2; have Hg2 := Lib.hid hg2; have Hat2 := Lib.hid hat2; clear hown2 hg2 hat2))
          go_ret2
          have hb2 : Below w.heap.size w w2 := by
            exact below_keeps (w' := w1.alloc (.cells #[.string (B (d :: r))] 9)) (below_alloc Hb1.out _) Hg2.out (fun k hk => hk.2)
          have hsl : Sl w2 strC 1 (.slice (some ⟨g2, off2, none⟩) (m + 1 + 1) c2) (xs ++ [d :: r]) := Own.sl (by simpa [strC] using Hown2.out) strC_len (by simp [Hn.out])
          refine ⟨⟨.slice (some ⟨g2, off2 + 1, none⟩) (m + 1) (c2 - 1), by rw [Hw.out]; rfl, ?_, .inr fun k hk => ?_⟩, hb2⟩
          · unfold addL
            rw [Hw.out, if_pos rfl, if_pos (by rw [← Hn.out]; exact hlen)]
            exact hsl.drop1
          · simp [Value.ownBlock] at hk; exact ⟨by omega, by omega⟩
        · have hlen2 : (m : Int) + 1 + 1 ≤ (most : Int) := by omega
          go_enter Try.func54, Try.ntmps54
          go_wp2_with (first | ((at_builtin; refine wpList_append_src _ rfl (.tmp 37) (.tmp 38) _ rfl w.heap.size 9 i0 _ 1 16 Try.underlying31 hi0 hz00 hz01 hz02 rfl (by decide) _ 0 [] rfl (Own.none_ _ _ _ _ _ (by simp)) _ (m + 1) (xs.flatMap strC) rfl (by rw [strC_flat, Nat.mul_one, Hn.out]) (HS.out.below (by (repeat (first | exact Below.refl _ _ | assumption | with_reducible refine below_alloc ?_ _ | with_reducible refine below_grow ?_ _ | with_reducible refine below_drewN ?_ _ | with_reducible refine below_drew ?_ | with_reducible refine below_setCell ?_ (by first | (dsimp only; omega) | (simp; done) | (simp; omega)) _)))) strC_one (by unfold maxLen; omega) (by omega) (by first | (simp; done) | omega | (simp; omega)) ?_; intro v1 w1 hown1 hg1 hat1 hty1; have HTY1 := Lib.hid hty1; clear hty1); simp only [Nat.zero_add, List.nil_append] at hown1; have hb1 : Below w.heap.size w w1 := below_keeps (by (repeat (first | exact Below.refl _ _ | assumption | with_reducible refine below_alloc ?_ _ | with_reducible refine below_grow ?_ _ | with_reducible refine below_drewN ?_ _ | with_reducible refine below_drew ?_ | with_reducible refine below_setCell ?_ (by first | (dsimp only; omega) | (simp; done) | (simp; omega)) _))) hg1 (fun k hk => hk.2); have hz1 := hb1.size; have Hown1 := Lib.hid hown1; have Hb1 := Lib.hid hb1; have Hat1 := Lib.hid hat1; clear hown1 hb1 hat1 hg1) | ((at_builtin; refine wpList_append_src _ rfl (.tmp 39) (.tmp 41) _ rfl w.heap.size 9 i0 _ 1 16 Try.underlying31 hi0 hz00 hz01 hz02 rfl (by decide) _ (m + 1) (xs.flatMap strC) rfl (Hown1.out.below (by (repeat (first | exact Below.refl _ _ | assumption | with_reducible refine below_alloc ?_ _ | with_reducible refine below_grow ?_ _ | with_reducible refine below_drewN ?_ _ | with_reducible refine below_drew ?_ | with_reducible refine below_setCell ?_ (by first | (dsimp only; omega) | (simp; done) | (simp; omega)) _)))) _ 1 [.string (B (d :: r))] rfl rfl (Src.one _ _ _ _) (by simp [Value.oneCell']) (by unfold maxLen; omega) (by omega) (by first | (simp; done) | omega | (simp; omega)) ?_; intro v2 w2 hown2 hg2 hat2 hty2; have HTY2 := Lib.hid hty2; clear hty2); obtain ⟨g2, off2, c2, rfl, q1, q2, q3, q4⟩ := hown2.form; have Hown2 := Lib.hid hown2; have Hg2 := Lib.hid hg2; have Hat2 := Lib.hid hat2; clear hown2 hg2 hat2))
          go_ret2
          have hb2 : Below w.heap.size w w2 := by
            exact below_keeps (w' := w1.alloc (.cells #[.string (B (d :: r))] 9)) (below_alloc Hb1.out _) Hg2.out (fun k hk => hk.2)
          have hsl : Sl w2 strC 1 (.slice (some ⟨g2, off2, none⟩) (m + 1 + 1) c2) (xs ++ [d :: r]) := Own.sl (by simpa [strC] using Hown2.out) strC_len (by simp [Hn.out])
          refine ⟨⟨.slice (some ⟨g2, off2, none⟩) (m + 1 + 1) c2, by rw [Hw.out]; rfl, ?_, .inr fun k hk => ?_⟩, hb2⟩
          · unfold addL
            rw [Hw.out, if_pos rfl, if_neg (by rw [← Hn.out]; exact hlen)]
            exact hsl
          · simp [Value.ownBlock] at hk; exact ⟨by omega, by omega⟩
    · have hz : n = 0 := by omega
      have Hw := Lib.hid (show wantB xs (d :: r) = true by
        have : xs = [] := List.eq_nil_of_length_eq_zero (by rw [← Hn.out, hz])
        rw [this]; simp [wantB, Hcw.out])
      have h0' := no h0
      have hlen : ¬ most < n + 1 := by omega
      have hlen2 : (n : Int) + 1 ≤ (most : Int) := by omega
      have Hz := Lib.hid hz
      clear hz
      go_enter Try.func54, Try.ntmps54
      go_wp2_with (first | ((at_builtin; refine wpList_append_src _ rfl (.tmp 37) (.tmp 38) _ rfl w.heap.size 9 i0 _ 1 16 Try.underlying31 hi0 hz00 hz01 hz02 rfl (by decide) _ 0 [] rfl (Own.none_ _ _ _ _ _ (by simp)) _ n (xs.flatMap strC) rfl (by rw [strC_flat, Nat.mul_one, Hn.out]) (HS.out.below (by (repeat (first | exact Below.refl _ _ | assumption | with_reducible refine below_alloc ?_ _ | with_reducible refine below_grow ?_ _ | with_reducible refine below_drewN ?_ _ | with_reducible refine below_drew ?_ | with_reducible refine below_setCell ?_ (by first | (dsimp only; omega) | (simp; done) | (simp; omega)) _)))) strC_one (by unfold maxLen; omega) (by omega) (by first | (simp; done) | omega | (simp; omega)) ?_; intro v1 w1 hown1 hg1 hat1 hty1; have HTY1 := Lib.hid hty1; clear hty1); simp only [Nat.zero_add, List.nil_append] at hown1; have hb1 : Below w.heap.size w w1 := below_keeps (by (repeat (first | exact Below.refl _ _ | assumption | with_reducible refine below_alloc ?_ _ | with_reducible refine below_grow ?_ _ | with_reducible refine below_drewN ?_ _ | with_reducible refine below_drew ?_ | with_reducible refine below_setCell ?_ (by first | (dsimp only; omega) | (simp; done) | (simp; omega)) _))) hg1 (fun k hk => hk.2); have hz1 := hb1.size; have Hown1 := Lib.hid hown1; have Hb1 := Lib.hid hb1; have Hat1 := Lib.hid hat1; clear hown1 hb1 hat1 hg1) | ((at_builtin; refine wpList_append_src _ rfl (.tmp 39) (.tmp 41) _ rfl w.heap.size 9 i0 _ 1 16 Try.underlying31 hi0 hz00 hz01 hz02 rfl (by decide) _ n (xs.flatMap strC) rfl (Hown1.out.below (by (repeat (first | exact Below.refl _ _ | assumption | with_reducible refine below_alloc ?_ _ | with_reducible refine below_grow ?_ _ | with_reducible refine below_drewN ?_ _ | with_reducible refine below_drew ?_ | with_reducible refine below_setCell ?_ (by first | (dsimp only; omega) | (simp; done) | (simp; omega)) _)))) _ 1 [.string (B (d :: r))] rfl rfl (Src.one _ _ _ _) (by simp [Value.oneCell']) (by unfold maxLen; omega) (by omega) (by first | (simp; done) | omega | (simp; omega)) ?_; intro v2 w2 hown2 hg2 hat2 hty2; have HTY2 := Lib.hid hty2; clear hty2); obtain ⟨g2, off2, c2, rfl, q1, q2, q3, q4⟩ := hown2.form; have Hown2 := Lib.hid hown2; have Hg2 := Lib.hid hg2; have Hat2 := Lib.hid hat2; clear hown2 hg2 hat2))
      go_ret2
      have hb2 : Below w.heap.size w w2 := by
        exact below_keeps (w' := w1.alloc (.cells #[.string (B (d :: r))] 9)) (below_alloc Hb1.out _) Hg2.out (fun k hk => hk.2)
      have hsl : Sl w2 strC 1 (.slice (some ⟨g2, off2, none⟩) (n + 1) c2) (xs ++ [d :: r]) := Own.sl (by simpa [strC] using Hown2.out) strC_len (by simp [Hn.out])
      refine ⟨⟨.slice (some ⟨g2, off2, none⟩) (n + 1) c2, by rw [Hw.out]; rfl, ?_, .inr fun k hk => ?_⟩, hb2⟩
      · unfold addL
        rw [Hw.out, if_pos rfl, if_neg (by rw [← Hn.out]; exact hlen)]
        exact hsl
      · simp [Value.ownBlock] at hk; exact ⟨by omega, by omega⟩
end Go.Proofs.Yteojepadhonbiaa
