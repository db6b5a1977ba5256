/-
  The reference's rows of files, on: Put, Names, Remove. Conditions: paths of at most 2^30 bytes; at most 2^20 files.
-/
import Derived.Test.YtnecmpgcjgkheaaGreatTreePlain3
import Derived.Test.YtnecmpgcjgkheaaGreatRefTree
set_option linter.unusedSimpArgs false
set_option linter.unusedVariables false
namespace Go.Proofs.YtnecmpgcjgkheaaGreat.Fil
open Go.ChangeShapes Go.WideShapes Go.Deep Go.RowKit Pat
set_option maxRecDepth 100000
def PutI (l : List (List UInt8)) (s : List UInt8) (k : Nat) (d : Bool) (o : List (List UInt8)) : Prop :=
  o.length ≤ k + 1 ∧ ((d = true ∧ (∃ b ∈ l.take k, s ≤ b) ∧ o = putL (l.take k) s) ∨ (d = false ∧ (∀ b ∈ l.take k, ¬ s ≤ b) ∧ o = l.take k ∧ o.length ≤ k))
theorem putL_one (x s : List UInt8) (h : s ≤ x) : putL [x] s = if x = s then [x] else [s, x] := by
  show (if s ≤ x then _ else _) = _
  rw [if_pos h]
set_option maxHeartbeats 1600000 in
theorem refPut_any (l : List (List UInt8)) (v : Value) (s : List UInt8) (w : World) (h : Sl w strC 1 v l) (hl : l.length ≤ 1099511627776) : Calls Tryz.prog 30 #[v, .string (B s)] w (StrP (putL l s) w) := by
  obtain ⟨i0, hi0, hz00, hz01, hz02⟩ := info_parts info_str
  obtain ⟨A, c, rfl, hc1, hc2, hn, hA⟩ := h
  have HA := Lib.hid hA
  clear hA hn hc1 hc2
  go_enter Tryz.func30, Tryz.ntmps30
  go_wp2
  go_loopw [5, 6, 7] (fun o d i w' => ∃ (k : Nat) (u : Value) (b : Bool) (out : List (List UInt8)), u = o ∧ d = .bool b ∧ k ≤ l.length ∧ i = .int .i64 k ∧ Hid (PutI l s k b out) ∧ Hid (Own w' w.heap.size 1 u out.length (out.flatMap strC)) ∧ Hid (Below w.heap.size w w')) (fun _ _ i _ => l.length - (intOf i).toNat)
  case atStart => exact ⟨0, _, false, [], rfl, rfl, by omega, rfl, ⟨by simp, .inr ⟨rfl, by simp, by simp, by simp⟩⟩, Own.nil _ _ _, Below.refl _ _⟩
  case round =>
    obtain ⟨k, u, b, out, rfl, rfl, hk, rfl, HP, HO, HB⟩ := hrel
    have hbs := HB.out.size
    have hol := HP.out.1
    by_cases hlt : k < l.length
    · obtain ⟨g, off, rfl, hb, hc⟩ := HA.out (by omega)
      obtain ⟨x, hxm⟩ := get_some hlt
      have e0 : wr.cell? ⟨g, off + k, none⟩ = some (.string (B x)) := (HB.out.cell (p := ⟨g, off + k, none⟩) hb).trans (by have := hc k _ hxm 0 _ rfl; simpa using this)
      have EC := Lib.hid fun W (hW : Below w.heap.size w W) => (show W.cell? ⟨g, off + k, none⟩ = some (.string (B x)) from (hW.cell (p := ⟨g, off + k, none⟩) hb).trans (by have := hc k _ hxm 0 _ rfl; simpa using this))
      haveI : Old wr g := ⟨World.block_lt_of_cell? _ _ e0⟩
      have k0 : (0 : Int) ≤ (k : Int) := by omega
      have k1 : (k : Int) < (l.length : Int) := by omega
      have hsn : l.take (k + 1) = l.take k ++ [x] := by
        obtain ⟨h1, rfl⟩ := List.getElem?_eq_some_iff.1 hxm
        exact List.take_succ_eq_append_getElem h1
      have HSN := Lib.hid hsn
      clear hc hxm hsn
      cases b with
      | true =>
        have HP2 : Hid (PutI l s (k + 1) true (out ++ [x])) := by
          show PutI _ _ _ _ _
          rcases HP.out.2 with ⟨_, ⟨b, hb1, hb2⟩, hb3⟩ | ⟨q, _⟩
          · exact ⟨by simp; omega, .inl ⟨rfl, ⟨b, by rw [HSN.out]; simp [hb1], hb2⟩, by rw [HSN.out, putL_snoc _ _ _ ⟨b, hb1, hb2⟩, hb3]⟩⟩
          · cases q
        go_wp2_with ((at_builtin; refine wpList_append_src _ rfl (.tmp 34) (.tmp 39) _ rfl w.heap.size 9 i0 _ 1 16 Tryz.underlying26 hi0 hz00 hz01 hz02 rfl (by decide) _ out.length (out.flatMap strC) rfl (HO.out.below (by (repeat (first | exact Below.refl _ _ | assumption | with_reducible refine below_alloc ?_ _ | with_reducible refine below_grow ?_ _ | with_reducible refine below_drewN ?_ _ | with_reducible refine below_drew ?_ | with_reducible refine below_setCell ?_ (by first | (dsimp only; omega) | (simp; done) | (simp; omega)) _)))) _ 1 (strC x) rfl rfl (Src.one _ _ _ _) (by simp [strC, Value.oneCell']) (by unfold maxLen; omega) (by omega) (by first | (simp; done) | omega | (simp; omega)) ?_; intro v2 w2 hown2 hg2 hat2 hty2; have HTY2 := Lib.hid hty2; clear hty2); have HO2 := Lib.hid hown2; have HB2 := Lib.hid (below_keeps (below_alloc HB.out _) hg2 (fun k hk => hk.2)); clear hown2 hg2 hat2)
        go_roundw
        case rel => exact ⟨k + 1, v2, true, out ++ [x], rfl, rfl, by omega, by go_num, HP2.out, by show Own _ _ _ _ _ _; simpa [List.flatMap_append] using HO2.out, HB2.out⟩
        case measure => simp [intOf]; omega
      | false =>
        have hp0 : (∀ b ∈ l.take k, ¬ s ≤ b) ∧ out = l.take k ∧ out.length ≤ k := by
          rcases HP.out.2 with ⟨q, _⟩ | ⟨_, q⟩
          · cases q
          · exact q
        have HP0 := Lib.hid hp0
        clear hp0
        cases hq : Op.bytesLess x s with
        | true =>
          have HP2 : Hid (PutI l s (k + 1) false (out ++ [x])) := ⟨by simp; omega, .inr ⟨rfl, fun b hb => by
            rw [less_lt, decide_eq_true_eq] at hq
            rw [HSN.out] at hb
            rcases List.mem_append.1 hb with z | z
            · exact HP0.out.1 b z
            · simp at z; subst z; exact List.not_le.2 hq, by rw [HSN.out, HP0.out.2.1], by simp; have := HP0.out.2.2; omega⟩⟩
          go_wp2_with ((at_builtin; refine wpList_append_src _ rfl (.tmp 34) (.tmp 39) _ rfl w.heap.size 9 i0 _ 1 16 Tryz.underlying26 hi0 hz00 hz01 hz02 rfl (by decide) _ out.length (out.flatMap strC) rfl (HO.out.below (by (repeat (first | exact Below.refl _ _ | assumption | with_reducible refine below_alloc ?_ _ | with_reducible refine below_grow ?_ _ | with_reducible refine below_drewN ?_ _ | with_reducible refine below_drew ?_ | with_reducible refine below_setCell ?_ (by first | (dsimp only; omega) | (simp; done) | (simp; omega)) _)))) _ 1 (strC x) rfl rfl (Src.one _ _ _ _) (by simp [strC, Value.oneCell']) (by unfold maxLen; omega) (by omega) (by first | (simp; done) | omega | (simp; omega)) ?_; intro v2 w2 hown2 hg2 hat2 hty2; have HTY2 := Lib.hid hty2; clear hty2); have HO2 := Lib.hid hown2; have HB2 := Lib.hid (below_keeps (below_alloc HB.out _) hg2 (fun k hk => hk.2)); clear hown2 hg2 hat2)
          go_roundw
          case rel => exact ⟨k + 1, v2, false, out ++ [x], rfl, rfl, by omega, by go_num, HP2.out, by show Own _ _ _ _ _ _; simpa [List.flatMap_append] using HO2.out, HB2.out⟩
          case measure => simp [intOf]; omega
        | false =>
          have HLE : Hid (s ≤ x) := by
            show _ ≤ _
            rw [less_lt, decide_eq_false_iff_not] at hq
            exact List.not_lt.1 hq
          have HPL : Hid (putL (l.take (k + 1)) s = l.take k ++ putL [x] s) := by
            show _ = _
            rw [HSN.out, putL_low _ _ _ HP0.out.1]
          by_cases e : x = s
          · have HP2 : Hid (PutI l s (k + 1) true (out ++ [x])) := ⟨by simp; omega, .inl ⟨rfl, ⟨x, by rw [HSN.out]; simp, HLE.out⟩, by
              rw [HPL.out, putL_one _ _ HLE.out, if_pos e, HP0.out.2.1]⟩⟩
            have e2 : (x == s) = true := by simpa using e
            clear e
            go_wp2_with ((at_builtin; refine wpList_append_src _ rfl (.tmp 34) (.tmp 39) _ rfl w.heap.size 9 i0 _ 1 16 Tryz.underlying26 hi0 hz00 hz01 hz02 rfl (by decide) _ out.length (out.flatMap strC) rfl (HO.out.below (by (repeat (first | exact Below.refl _ _ | assumption | with_reducible refine below_alloc ?_ _ | with_reducible refine below_grow ?_ _ | with_reducible refine below_drewN ?_ _ | with_reducible refine below_drew ?_ | with_reducible refine below_setCell ?_ (by first | (dsimp only; omega) | (simp; done) | (simp; omega)) _)))) _ 1 (strC x) rfl rfl (Src.one _ _ _ _) (by simp [strC, Value.oneCell']) (by unfold maxLen; omega) (by omega) (by first | (simp; done) | omega | (simp; omega)) ?_; intro v2 w2 hown2 hg2 hat2 hty2; have HTY2 := Lib.hid hty2; clear hty2); have HO2 := Lib.hid hown2; have HB2 := Lib.hid (below_keeps (below_alloc HB.out _) hg2 (fun k hk => hk.2)); clear hown2 hg2 hat2)
            go_roundw
            case rel => exact ⟨k + 1, v2, true, out ++ [x], rfl, rfl, by omega, by go_num, HP2.out, by show Own _ _ _ _ _ _; simpa [List.flatMap_append] using HO2.out, HB2.out⟩
            case measure => simp [intOf]; omega
          · have HP2 : Hid (PutI l s (k + 1) true (out ++ [s] ++ [x])) := ⟨by have := HP0.out.2.2; simp; omega, .inl ⟨rfl, ⟨x, by rw [HSN.out]; simp, HLE.out⟩, by
              rw [HPL.out, putL_one _ _ HLE.out, if_neg e, HP0.out.2.1]; simp⟩⟩
            have e2 : (x == s) = false := by simpa using e
            have HE := Lib.hid e
            clear e
            go_wp2_with (first
              | ((at_builtin; refine wpList_append_src _ rfl (.tmp 30) (.tmp 32) _ rfl w.heap.size 9 i0 _ 1 16 Tryz.underlying26 hi0 hz00 hz01 hz02 rfl (by decide) _ out.length (out.flatMap strC) rfl (HO.out.below (by (repeat (first | exact Below.refl _ _ | assumption | with_reducible refine below_alloc ?_ _ | with_reducible refine below_grow ?_ _ | with_reducible refine below_drewN ?_ _ | with_reducible refine below_drew ?_ | with_reducible refine below_setCell ?_ (by first | (dsimp only; omega) | (simp; done) | (simp; omega)) _)))) _ 1 (strC s) rfl rfl (Src.one _ _ _ _) (by simp [strC, Value.oneCell']) (by unfold maxLen; omega) (by omega) (by first | (simp; done) | omega | (simp; omega)) ?_; intro v2 w2 hown2 hg2 hat2 hty2; have HTY2 := Lib.hid hty2; clear hty2); have HO2 := Lib.hid hown2; have HB2 := Lib.hid (below_keeps (below_alloc HB.out _) hg2 (fun k hk => hk.2)); clear hown2 hat2 hg2; have hz2 := HB2.out.size; have e02 := EC.out _ HB2.out; haveI : Old w2 g := ⟨World.block_lt_of_cell? _ _ e02⟩)
              | ((at_builtin; refine wpList_append_src _ rfl (.tmp 34) (.tmp 39) _ rfl w.heap.size 9 i0 _ 1 16 Tryz.underlying26 hi0 hz00 hz01 hz02 rfl (by decide) _ (out.length + 1) (out.flatMap strC ++ strC s) rfl (HO2.out.below (by (repeat (first | exact Below.refl _ _ | assumption | with_reducible refine below_alloc ?_ _ | with_reducible refine below_grow ?_ _ | with_reducible refine below_drewN ?_ _ | with_reducible refine below_drew ?_ | with_reducible refine below_setCell ?_ (by first | (dsimp only; omega) | (simp; done) | (simp; omega)) _)))) _ 1 (strC x) rfl rfl (Src.one _ _ _ _) (by simp [strC, Value.oneCell']) (by unfold maxLen; omega) (by omega) (by first | (simp; done) | omega | (simp; omega)) ?_; intro v3 w3 hown3 hg3 hat3 hty3; have HTY3 := Lib.hid hty3; clear hty3); have HO3 := Lib.hid hown3; have HB3 := Lib.hid (below_keeps (below_alloc HB2.out _) hg3 (fun k hk => hk.2)); clear hown3 hg3 hat3))
            go_roundw
            case rel => exact ⟨k + 1, v3, true, out ++ [s] ++ [x], rfl, rfl, by omega, by go_num, HP2.out, by show Own _ _ _ _ _ _; simpa [List.flatMap_append] using HO3.out, HB3.out⟩
            case measure => simp [intOf]; omega
    · have hk2 : k = l.length := by omega
      subst hk2
      have d0 := no hlt
      clear hlt
      cases b with
      | true =>
        have HR : Hid (out = putL l s) := by
          show _ = _
          rcases HP.out.2 with ⟨_, _, q⟩ | ⟨q, _⟩
          · rwa [List.take_length] at q
          · cases q
        go_wp2
        go_ret
        exact ⟨u, rfl, by rw [← HR.out]; exact HO.out, HB.out⟩
      | false =>
        have HR : Hid (out ++ [s] = putL l s) := by
          show _ = _
          rcases HP.out.2 with ⟨q, _⟩ | ⟨_, q1, q2, _⟩
          · cases q
          · rw [List.take_length] at q1 q2
            have := putL_low s l [] q1
            rw [List.append_nil] at this
            rw [this, q2]
            rfl
        go_wp2_with ((at_builtin; refine wpList_append_src _ rfl (.tmp 43) (.tmp 45) _ rfl w.heap.size 9 i0 _ 1 16 Tryz.underlying26 hi0 hz00 hz01 hz02 rfl (by decide) _ out.length (out.flatMap strC) rfl (HO.out.below (by (repeat (first | exact Below.refl _ _ | assumption | with_reducible refine below_alloc ?_ _ | with_reducible refine below_grow ?_ _ | with_reducible refine below_drewN ?_ _ | with_reducible refine below_drew ?_ | with_reducible refine below_setCell ?_ (by first | (dsimp only; omega) | (simp; done) | (simp; omega)) _)))) _ 1 (strC s) rfl rfl (Src.one _ _ _ _) (by simp [strC, Value.oneCell']) (by unfold maxLen; omega) (by omega) (by first | (simp; done) | omega | (simp; omega)) ?_; intro v2 w2 hown2 hg2 hat2 hty2; have HTY2 := Lib.hid hty2; clear hty2); have HO2 := Lib.hid hown2; have HB2 := Lib.hid (below_keeps (below_alloc HB.out _) hg2 (fun k hk => hk.2)); clear hown2 hg2 hat2)
        go_ret
        exact ⟨v2, rfl, by rw [← HR.out]; simpa [List.flatMap_append] using HO2.out, HB2.out⟩
end Go.Proofs.YtnecmpgcjgkheaaGreat.Fil
