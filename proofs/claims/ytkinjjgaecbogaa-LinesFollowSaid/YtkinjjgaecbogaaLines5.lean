/-
  The walks of layer 3 (lines): the references, Of, right, awake. Conditions: texts of at most 2^32 bytes.
-/
import Derived.Test.YtkinjjgaecbogaaLines4
namespace Go.Proofs.Ytkinjjgaecbogaa
open Go.ChangeShapes Go.WideShapes Go.Deep Go.RowKit
set_option maxRecDepth 100000
theorem byte10 {c : UInt8} (h : ¬ c = 10) : ((c.toNat : Int) == 10) = false := by
  rw [beq_eq_false_iff_ne]; intro e; exact h (UInt8.toNat_inj.1 (by simpa using (by omega : c.toNat = 10)))
theorem nls_take (s : List UInt8) (j : Nat) (c : UInt8) (h : s[j]? = some c) : (nls (s.take (j + 1)) 0).length = (nls (s.take j) 0).length + (if c = 10 then 1 else 0) ∧ tl (s.take (j + 1)) = (if c = 10 then (j : Int) + 1 else tl (s.take j)) := by
  have hl := (List.getElem?_eq_some_iff.1 h).1
  rw [take_snoc h, nls_snoc, tl_snoc, List.length_append, List.length_take, Nat.min_eq_left (by omega)]
  split <;> simp
set_option maxHeartbeats 1000000 in
theorem refWhere_any (s : List UInt8) (k : Nat) (w : World) (hk : k ≤ s.length) (hs : s.length ≤ 4294967296) :
    Calls Try.prog 77 #[.string (B s), .int .i64 k] w fun e w' => e = .returned (.tuple #[.int .i64 ((nls (s.take k) 0).length : Int), .int .i64 ((k : Int) - tl (s.take k))]) ∧ w = w' := by
  go_enter Try.func77, Try.ntmps77
  go_wp2
  go_loop [6, 7, 8] (fun l c i => ∃ (j ln : Nat) (cl : Int), j ≤ k ∧ i = .int .i64 j ∧ l = .int .i64 ln ∧ c = .int .i64 cl ∧ 0 ≤ cl ∧ cl ≤ j ∧ ln ≤ j ∧ Hid (ln = (nls (s.take j) 0).length ∧ cl = (j : Int) - tl (s.take j))) (fun _ _ i => k - (intOf i).toNat)
  case atStart => exact ⟨0, 0, 0, by omega, rfl, rfl, rfl, by omega, by omega, by omega, by show _ ∧ _; simp [nls, tl, firstOf]⟩
  case round =>
    obtain ⟨j, ln, cl, hj, rfl, rfl, rfl, hc0, hc1, hln, HR⟩ := hrel
    by_cases hlt : j < k
    · have hjs : j < s.length := by omega
      have HX := Lib.hid (nls_take s j s[j] (List.getElem?_eq_getElem hjs))
      by_cases hc : s[j] = 10
      · go_wp2
        go_round
        case rel => exact ⟨j + 1, ln + 1, 0, by omega, by go_num, by go_num, rfl, by omega, by omega, by omega, by
          have h1 := HR.out; have h2 := HX.out; rw [if_pos hc, if_pos hc] at h2; exact ⟨by omega, by omega⟩⟩
        case measure => simp [intOf]; omega
      · have hc' := byte10 hc
        have HC := Lib.hid hc
        clear hc
        go_wp2
        go_round
        case rel => exact ⟨j + 1, ln, cl + 1, by omega, by go_num, rfl, rfl, by omega, by omega, by omega, by
          have h1 := HR.out; have h2 := HX.out; rw [if_neg HC.out, if_neg HC.out] at h2; exact ⟨by omega, by omega⟩⟩
        case measure => simp [intOf]; omega
    · have hjk : j = k := by omega
      have HJ := Lib.hid hjk
      clear hjk
      go_wp2
      go_ret2
      have h1 := HR.out
      rw [HJ.out] at h1
      exact ⟨by rw [← h1.1, ← h1.2]; rfl, rfl⟩
theorem lns_take (s : List UInt8) (j : Nat) (c : UInt8) (h : s[j]? = some c) : lns (s.take (j + 1)) = if c = 10 then ((lns (s.take j)).1 ++ [(lns (s.take j)).2], []) else ((lns (s.take j)).1, (lns (s.take j)).2 ++ [c]) := by
  rw [take_snoc h, lns_snoc]
def LinesPost (s : List UInt8) (w : World) (e : Ending) (w' : World) : Prop := ∃ v, e = .returned v ∧ Own w' w.heap.size 1 v (linesOf s).length ((linesOf s).flatMap strC) ∧ Below w.heap.size w w'
set_option maxHeartbeats 1000000 in
theorem refLines_any (s : List UInt8) (w : World) (hs : s.length ≤ 4294967296) : Calls Try.prog 38 #[.string (B s)] w (LinesPost s w) := by
  obtain ⟨i0, hi0, hz00, hz01, hz02⟩ := info_parts info_str
  go_enter Try.func38, Try.ntmps38
  go_wp2
  go_loopw [3, 4, 5] (fun o u i wr => ∃ (j : Nat) (out : List (List UInt8)) (cur : List UInt8), j ≤ s.length ∧ i = .int .i64 j ∧ u = .string (B cur) ∧ out.length ≤ j ∧ cur.length ≤ j ∧ Hid ((out, cur) = lns (s.take j)) ∧
    Hid (Own wr w.heap.size 1 o out.length (out.flatMap strC)) ∧ Hid (Below w.heap.size w wr)) (fun _ _ i _ => s.length - (intOf i).toNat)
  case atStart => exact ⟨0, [], [], by omega, rfl, rfl, by simp, by simp, rfl, Own.nil _ _ _, Below.refl _ _⟩
  case round =>
    obtain ⟨j, out, cur, hj, rfl, rfl, ho, hcu, HR, HO, HB⟩ := hrel
    by_cases hlt : j < s.length
    · have HX := Lib.hid (lns_take s j s[j] (List.getElem?_eq_getElem hlt))
      have hz := HB.out.size
      by_cases hc : s[j] = 10
      · go_wp2_with ((at_builtin; refine wpList_append_src _ rfl (.tmp 16) (.tmp 18) _ rfl w.heap.size 9 i0 _ 1 16 Try.underlying22 hi0 hz00 hz01 hz02 rfl (by decide) _ out.length (out.flatMap strC) rfl (HO.out.below (by (repeat (first | exact Below.refl _ _ | assumption | with_reducible refine below_alloc ?_ _ | with_reducible refine below_grow ?_ _ | with_reducible refine below_drewN ?_ _ | with_reducible refine below_drew ?_ | with_reducible refine below_setCell ?_ (by first | (dsimp only; omega) | (simp; done) | (simp; omega)) _)))) _ 1 [.string (B cur)] rfl rfl (Src.one _ _ _ _) (by simp [Value.oneCell']) (by unfold maxLen; omega) (by omega) (by first | (simp; done) | omega | (simp; omega)) ?_; intro v1 w1 hown1 hg1 hat1 hty1; have HTY1 := Lib.hid hty1; clear hty1); have hb1 := below_keeps (below_alloc HB.out _) hg1 (fun k hk => hk.2); have HO1 := Lib.hid hown1; have HB1 := Lib.hid hb1; clear hown1 hb1 hg1 hat1)
        go_roundw
        case rel => exact ⟨j + 1, out ++ [cur], [], by omega, by go_num, rfl, by simp; omega, by simp, by
          show _ = _; rw [HX.out, if_pos hc, ← HR.out], by show Own _ _ _ _ _ _; simpa [strC] using HO1.out, HB1.out⟩
        case measure => simp [intOf]; omega
      · have hc' := byte10 hc
        have HC := Lib.hid hc
        clear hc
        go_wp2
        go_roundw
        case rel => exact ⟨j + 1, out, cur ++ [s[j]], by omega, by go_num, by rw [one_at s j hlt], by omega, by simp; omega, by
          show _ = _; rw [HX.out, if_neg HC.out, ← HR.out], HO.out, HB.out⟩
        case measure => simp [intOf]; omega
    · have hjk : j = s.length := by omega
      have HJ := Lib.hid hjk
      have hz := HB.out.size
      clear hjk
      go_wp2_with ((at_builtin; refine wpList_append_src _ rfl (.tmp 27) (.tmp 29) _ rfl w.heap.size 9 i0 _ 1 16 Try.underlying22 hi0 hz00 hz01 hz02 rfl (by decide) _ out.length (out.flatMap strC) rfl (HO.out.below (by (repeat (first | exact Below.refl _ _ | assumption | with_reducible refine below_alloc ?_ _ | with_reducible refine below_grow ?_ _ | with_reducible refine below_drewN ?_ _ | with_reducible refine below_drew ?_ | with_reducible refine below_setCell ?_ (by first | (dsimp only; omega) | (simp; done) | (simp; omega)) _)))) _ 1 [.string (B cur)] rfl rfl (Src.one _ _ _ _) (by simp [Value.oneCell']) (by unfold maxLen; omega) (by omega) (by first | (simp; done) | omega | (simp; omega)) ?_; intro v1 w1 hown1 hg1 hat1 hty1; have HTY1 := Lib.hid hty1; clear hty1); have hb1 := below_keeps (below_alloc HB.out _) hg1 (fun k hk => hk.2); have HO1 := Lib.hid hown1; have HB1 := Lib.hid hb1; clear hown1 hb1 hg1 hat1)
      go_ret
      have h1 := HR.out
      rw [HJ.out, List.take_length] at h1
      have h2 : linesOf s = out ++ [cur] := by unfold linesOf; rw [← h1]
      exact ⟨_, rfl, by rw [h2]; simpa [strC] using HO1.out, HB1.out⟩
set_option maxHeartbeats 1000000 in
theorem refFirst_any (s : List UInt8) (k : Nat) (w : World) (hk : k ≤ (nls s 0).length) (hs : s.length ≤ 4294967296) :
    Calls Try.prog 40 #[.string (B s), .int .i64 k] w fun e w' => e = .returned (.int .i64 (firstOf (nls s 0) k)) ∧ w = w' := by
  have hkl : k ≤ 4294967296 := by have := nls_len s 0; omega
  have HK := Lib.hid hk
  clear hk
  go_enter Try.func40, Try.ntmps40
  go_wp2
  go_loop [1, 5, 6] (fun l a i => ∃ (j m : Nat) (at_ : Int), j ≤ s.length ∧ i = .int .i64 j ∧ l = .int .i64 m ∧ a = .int .i64 at_ ∧ m ≤ k ∧ Hid (m + (nls (s.take j) 0).length = k ∧ at_ = tl (s.take j))) (fun _ _ i => s.length - (intOf i).toNat)
  case atStart => exact ⟨0, k, 0, by omega, rfl, rfl, rfl, by omega, by show _ ∧ _; simp [nls, tl, firstOf]⟩
  case round =>
    obtain ⟨j, m, at_, hj, rfl, rfl, rfl, hm, HR⟩ := hrel
    have HF := Lib.hid (cntLt_take s j hj).2
    by_cases hm0 : 0 < m
    · by_cases hlt : j < s.length
      · have HX := Lib.hid (nls_take s j s[j] (List.getElem?_eq_getElem hlt))
        by_cases hc : s[j] = 10
        · go_wp2
          go_round
          case rel => exact ⟨j + 1, m - 1, (j : Int) + 1, by omega, by go_num, (by rw [show ((m - 1 : Nat) : Int) = (m : Int) - 1 by omega]), rfl, by omega, by
            have h1 := HR.out; have h2 := HX.out; rw [if_pos hc, if_pos hc] at h2; exact ⟨by omega, by omega⟩⟩
          case measure => simp [intOf]; omega
        · have hc' := byte10 hc
          have HC := Lib.hid hc
          clear hc
          go_wp2
          go_round
          case rel => exact ⟨j + 1, m, at_, by omega, by go_num, rfl, rfl, by omega, by
            have h1 := HR.out; have h2 := HX.out; rw [if_neg HC.out, if_neg HC.out] at h2; exact ⟨by omega, by omega⟩⟩
          case measure => simp [intOf]; omega
      · exfalso
        have h1 := HR.out
        have h2 := HK.out
        rw [List.take_of_length_le (by omega)] at h1
        omega
    · have hm1 : m = 0 := by omega
      subst hm1
      clear hm0 hm
      by_cases hlt : j < s.length
      all_goals
        go_wp2
        go_ret
        have h1 := HR.out
        have h2 := HF.out
        rw [show (nls (s.take j) 0).length = k by omega, ← h1.2] at h2
        exact ⟨by rw [h2]; rfl, rfl⟩
end Go.Proofs.Ytkinjjgaecbogaa
