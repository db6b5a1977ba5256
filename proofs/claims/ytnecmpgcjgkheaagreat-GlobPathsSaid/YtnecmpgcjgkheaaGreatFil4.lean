/-
  The walks of layer 18's reference: IsName, Parts, IsPath. Conditions: texts of at most 2^30 bytes.
-/
import Derived.Test.YtnecmpgcjgkheaaGreatStr
import Derived.Test.YtnecmpgcjgkheaaGreatTailIn
import Derived.Test.YtnecmpgcjgkheaaGreatPatA
set_option linter.unusedSimpArgs false
set_option linter.unusedVariables false
namespace Go.Proofs.YtnecmpgcjgkheaaGreat.Fil
open Go.ChangeShapes Go.WideShapes Go.Deep Go.RowKit
set_option maxRecDepth 100000
theorem nameB_no {s : List UInt8} (h : s = [] ∨ s = [46] ∨ s = [46, 46] ∨ 255 < s.length ∨ 47 ∈ s ∨ 0 ∈ s) : nameB s = false := by
  unfold nameB
  rcases h with rfl | rfl | rfl | h | h | h
  · rfl
  · rfl
  · rfl
  · rw [no (show ¬ s.length ≤ 255 by omega)]; simp
  · rw [List.contains_iff_mem.2 h]; simp
  · rw [show s.contains 0 = true from List.contains_iff_mem.2 h]; simp
theorem nameB_yes {s : List UInt8} (h1 : ¬ s = []) (h2 : ¬ s = [46]) (h3 : ¬ s = [46, 46]) (h4 : s.length ≤ 255) (h5 : 47 ∉ s) (h6 : 0 ∉ s) : nameB s = true := by
  unfold nameB
  simp [h1, h2, h3, h4, h5, h6]
set_option maxHeartbeats 1600000 in
theorem refIsName_any (s : List UInt8) (w : World) (hs : s.length ≤ 1073741824) : Calls Tryz.prog 29 #[.string (B s)] w fun e w' => e = .returned (.bool (nameB s)) ∧ w = w' := by
  have HNO := Lib.hid fun h => nameB_no (s := s) h
  have HYES := Lib.hid fun h1 h2 h3 h4 h5 h6 => nameB_yes (s := s) h1 h2 h3 h4 h5 h6
  by_cases n1 : s = []
  · subst n1
    go_enter Tryz.func29, Tryz.ntmps29
    go_wp2
    go_ret
    exact ⟨rfl, rfl⟩
  by_cases n2 : s = [46]
  · subst n2
    go_enter Tryz.func29, Tryz.ntmps29
    go_wp2
    go_ret
    exact ⟨rfl, rfl⟩
  by_cases n3 : s = [46, 46]
  · subst n3
    go_enter Tryz.func29, Tryz.ntmps29
    go_wp2
    go_ret
    exact ⟨rfl, rfl⟩
  by_cases n4 : 255 < s.length
  · have HR := Lib.hid (HNO.out (.inr (.inr (.inr (.inl n4)))))
    generalize nameB s = r at *
    have d4 : (255 : Int) < (s.length : Int) := by omega
    clear HYES HNO n4
    go_enter Tryz.func29, Tryz.ntmps29
    go_wp2
    go_ret
    exact ⟨by rw [HR.out]; simp [n1, n2, n3], rfl⟩
  have d4 := no (show ¬ (255 : Int) < (s.length : Int) by omega)
  generalize nameB s = r at *
  have HYES := Lib.hid (HYES.out n1 n2 n3 (by omega))
  have m1 : (s == []) = false := by rw [beq_eq_false_iff_ne]; exact n1
  have m2 : (s == [46]) = false := by rw [beq_eq_false_iff_ne]; exact n2
  have m3 : (s == [46, 46]) = false := by rw [beq_eq_false_iff_ne]; exact n3
  clear n4 n1 n2 n3
  go_enter Tryz.func29, Tryz.ntmps29
  go_wp2
  go_loopw [3] (fun i w' => ∃ k : Nat, k ≤ s.length ∧ i = .int .i64 k ∧ w = w' ∧ Hid (∀ c ∈ s.take k, c ≠ 47 ∧ c ≠ 0)) (fun i _ => s.length - (intOf i).toNat)
  case atStart => exact ⟨0, by omega, rfl, rfl, fun c hc => by simp at hc⟩
  case round =>
    obtain ⟨k, hk, rfl, rfl, HT⟩ := hrel
    by_cases hlt : k < s.length
    · have k0 : (0 : Int) ≤ (k : Int) := by omega
      have k1 : (k : Int) < (s.length : Int) := by omega
      have HSN := Lib.hid (show s.take (k + 1) = s.take k ++ [s[k]] from List.take_succ_eq_append_getElem hlt)
      have HM := Lib.hid (List.getElem_mem hlt)
      by_cases c1 : s[k] = 47
      · have e1 := Pat.is_b (n := 47) rfl c1
        have HR := Lib.hid (HNO.out (.inr (.inr (.inr (.inr (.inl (c1 ▸ HM.out)))))))
        clear c1
        go_wp2
        go_ret
        exact ⟨by rw [HR.out]; rfl, rfl⟩
      have e1 := Pat.not_b (n := 47) rfl c1
      by_cases c2 : s[k] = 0
      · have e2 := Pat.is_b (n := 0) rfl c2
        have HR := Lib.hid (HNO.out (.inr (.inr (.inr (.inr (.inr (c2 ▸ HM.out)))))))
        clear c1 c2
        go_wp2
        go_ret
        exact ⟨by rw [HR.out]; rfl, rfl⟩
      have e2 := Pat.not_b (n := 0) rfl c2
      have HC := Lib.hid (And.intro c1 c2)
      clear c1 c2
      go_wp2
      go_roundw
      case rel => exact ⟨k + 1, by omega, by go_num, by trivial, fun c hc => by
        rw [HSN.out] at hc
        rcases List.mem_append.1 hc with hc | hc
        · exact HT.out c hc
        · simp at hc; subst hc; exact HC.out⟩
      case measure => simp [intOf]; omega
    · have hk2 : k = s.length := by omega
      subst hk2
      have d0 := no hlt
      have ht := HT.out
      rw [List.take_length] at ht
      have HR := Lib.hid (HYES.out (fun h => (ht _ h).1 rfl) (fun h => (ht _ h).2 rfl))
      clear hlt ht
      go_wp2
      go_ret
      exact ⟨by rw [HR.out]; rfl, rfl⟩
def StrP (ns : List (List UInt8)) (w : World) (e : Ending) (w' : World) : Prop := ∃ v, e = .returned v ∧ Own w' w.heap.size 1 v ns.length (ns.flatMap strC) ∧ Below w.heap.size w w'
set_option maxHeartbeats 1600000 in
theorem refParts_any (s : List UInt8) (w : World) (hs : s.length ≤ 1073741824) : Calls Tryz.prog 28 #[.string (B s)] w (StrP (partsL s) w) := by
  obtain ⟨i0, hi0, hz00, hz01, hz02⟩ := info_parts info_str
  go_enter Tryz.func28, Tryz.ntmps28
  go_wp2
  go_loopw [3, 4, 5] (fun o t i w' => ∃ (v : Value) (u : List UInt8) (ns : List (List UInt8)) (k : Nat), v = o ∧ t = .string (B u) ∧ u.length ≤ k ∧ ns.length ≤ k ∧ k ≤ s.length ∧ i = .int .i64 k ∧ Hid (partsL s = ns ++ pre u (partsL (s.drop k))) ∧ Hid (Own w' w.heap.size 1 v ns.length (ns.flatMap strC)) ∧ Hid (Below w.heap.size w w')) (fun _ _ i _ => s.length - (intOf i).toNat)
  case atStart => exact ⟨_, [], [], 0, rfl, rfl, by simp, by simp, by omega, rfl, by show _ = _; rw [pre_nil]; rfl, Own.nil _ _ _, Below.refl _ _⟩
  case round =>
    obtain ⟨v, u, ns, k, rfl, rfl, hu, hnl, hk, rfl, HP, HO, HB⟩ := hrel
    have hbs := HB.out.size
    by_cases hlt : k < s.length
    · have k0 : (0 : Int) ≤ (k : Int) := by omega
      have k1 : (k : Int) < (s.length : Int) := by omega
      have hdr : s.drop k = s[k] :: s.drop (k + 1) := List.drop_eq_getElem_cons hlt
      have h1t : (s.take (k + 1)).drop k = [s[k]] := one_at s k hlt
      by_cases c1 : s[k] = 47
      · have e1 := Pat.is_b (n := 47) rfl c1
        have HP2 := Lib.hid (show partsL s = (ns ++ [u]) ++ pre [] (partsL (s.drop (k + 1))) by rw [HP.out, hdr, c1, partsL_stroke, pre_nil]; simp)
        clear c1 hdr h1t
        go_wp2_with ((at_builtin; refine wpList_append_src _ rfl (.tmp 16) (.tmp 18) _ rfl w.heap.size 9 i0 _ 1 16 Tryz.underlying26 hi0 hz00 hz01 hz02 rfl (by decide) _ ns.length (ns.flatMap strC) rfl (HO.out.below (by (repeat (first | exact Below.refl _ _ | assumption | with_reducible refine below_alloc ?_ _ | with_reducible refine below_grow ?_ _ | with_reducible refine below_drewN ?_ _ | with_reducible refine below_drew ?_ | with_reducible refine below_setCell ?_ (by first | (dsimp only; omega) | (simp; done) | (simp; omega)) _)))) _ 1 (strC u) rfl rfl (Src.one _ _ _ _) (by simp [strC, Value.oneCell']) (by unfold maxLen; omega) (by omega) (by first | (simp; done) | omega | (simp; omega)) ?_; intro v2 w2 hown2 hg2 hat2 hty2; have HTY2 := Lib.hid hty2; clear hty2); have HO2 := Lib.hid hown2; have HB2 := Lib.hid (below_keeps (below_then HB.out (below_alloc (Below.refl _ _) _)) hg2 (fun k hk => hk.2)); clear hown2 hg2 hat2)
        go_roundw
        case rel => exact ⟨v2, [], ns ++ [u], k + 1, rfl, rfl, by simp, by simp; omega, by omega, by go_num, HP2.out, by show Own _ _ _ _ _ _; simpa [List.flatMap_append] using HO2.out, HB2.out⟩
        case measure => simp [intOf]; omega
      · have e1 := Pat.not_b (n := 47) rfl c1
        have HP2 := Lib.hid (show partsL s = ns ++ pre (u ++ [s[k]]) (partsL (s.drop (k + 1))) by rw [HP.out, hdr, partsL_cons c1])
        have hul : ((u.length : Int) + 1) ≤ 9223372036854775807 := by omega
        clear c1 hdr
        go_wp2
        go_roundw
        case rel => exact ⟨v, u ++ [s[k]], ns, k + 1, rfl, by simp, by simp; omega, by omega, by omega, by go_num, HP2.out, HO.out, HB.out⟩
        case measure => simp [intOf]; omega
    · have hk2 : k = s.length := by omega
      subst hk2
      have d0 := no hlt
      have hp := HP.out
      rw [List.drop_length] at hp
      have HP2 := Lib.hid (show partsL s = ns ++ [u] by rw [hp]; simp [partsL, pre])
      clear hlt hp
      go_wp2_with ((at_builtin; refine wpList_append_src _ rfl (.tmp 27) (.tmp 29) _ rfl w.heap.size 9 i0 _ 1 16 Tryz.underlying26 hi0 hz00 hz01 hz02 rfl (by decide) _ ns.length (ns.flatMap strC) rfl (HO.out.below (by (repeat (first | exact Below.refl _ _ | assumption | with_reducible refine below_alloc ?_ _ | with_reducible refine below_grow ?_ _ | with_reducible refine below_drewN ?_ _ | with_reducible refine below_drew ?_ | with_reducible refine below_setCell ?_ (by first | (dsimp only; omega) | (simp; done) | (simp; omega)) _)))) _ 1 (strC u) rfl rfl (Src.one _ _ _ _) (by simp [strC, Value.oneCell']) (by unfold maxLen; omega) (by omega) (by first | (simp; done) | omega | (simp; omega)) ?_; intro v2 w2 hown2 hg2 hat2 hty2; have HTY2 := Lib.hid hty2; clear hty2); have HO2 := Lib.hid hown2; have HB2 := Lib.hid (below_keeps (below_then HB.out (below_alloc (Below.refl _ _) _)) hg2 (fun k hk => hk.2)); clear hown2 hg2 hat2)
      go_ret
      exact ⟨v2, rfl, by rw [HP2.out]; simpa [List.flatMap_append] using HO2.out, HB2.out⟩
set_option maxHeartbeats 1600000 in
theorem refIsPath_any (s : List UInt8) (w : World) (hs : s.length ≤ 1073741824) : Calls Tryz.prog 16 #[.string (B s)] w fun e w' => e = .returned (.bool (pathB s)) ∧ Below w.heap.size w w' := by
  by_cases n1 : s = []
  · subst n1
    go_enter Tryz.func16, Tryz.ntmps16
    go_wp2
    go_ret
    exact ⟨rfl, Below.refl _ _⟩
  obtain ⟨c, t, rfl⟩ : ∃ c t, s = c :: t := by
    cases s with
    | nil => exact absurd rfl n1
    | cons c t => exact ⟨c, t, rfl⟩
  simp only [List.length_cons] at hs
  by_cases c1 : c = 47
  · subst c1
    have HPT := Lib.hid fun W => refParts_any t W (by omega)
    have HIN := Lib.hid fun x W hx => refIsName_any x W hx
    have hpl := partsL_len t
    have HML := Lib.hid fun p (hp : p ∈ partsL t) => (partsL_mem hp).2
    have HB : Hid (pathB (47 :: t) = (t == [] || (partsL t).all nameB)) := by
      show _ = _
      unfold pathB
      simp
    generalize hps : partsL t = ps at *
    generalize pathB (47 :: t) = r at *
    clear hps
    go_enter Tryz.func16, Tryz.ntmps16
    go_wp2_with (go_at_call 28; refine (HPT.out _).mono ?_; rintro e w1 ⟨v1, rfl, ho, hb⟩; have HO := Lib.hid ho; have HBW := Lib.hid hb; obtain ⟨A, cc, rfl, -⟩ := ho.form0; clear ho hb)
    go_loopw [4] (fun i w' => ∃ k : Nat, k ≤ ps.length ∧ i = .int .i64 k ∧ w1 = w' ∧ Hid (∀ x ∈ ps.take k, nameB x = true)) (fun i _ => ps.length - (intOf i).toNat)
    case atStart => exact ⟨0, by omega, rfl, rfl, fun x hx => by simp at hx⟩
    case round =>
      obtain ⟨k, hk, rfl, rfl, HT⟩ := hrel
      by_cases hlt : k < ps.length
      · obtain ⟨g, off, rfl⟩ : ∃ g off, A = some ⟨g, off, none⟩ := by
          obtain ⟨g, off, c', e, -⟩ := HO.out.form' (by omega)
          injection e with e1
          exact ⟨g, off, e1⟩
        obtain ⟨x, hxm⟩ := get_some hlt
        obtain ⟨e0, hg⟩ := own_str HO.out hxm
        haveI : Old w1 g := ⟨hg⟩
        have k0 : (0 : Int) ≤ (k : Int) := by omega
        have k1 : (k : Int) < (ps.length : Int) := by omega
        have hxl := HML.out x (List.mem_of_getElem? hxm)
        have HX := Lib.hid fun W => HIN.out x W (by omega)
        have HXM := Lib.hid hxm
        clear hxm
        cases hb : nameB x with
        | true =>
          rw [hb] at HX
          go_wp2_with (go_at_call 29; refine (HX.out _).mono ?_; rintro e w' ⟨rfl, rfl⟩)
          go_roundw
          case rel => exact ⟨k + 1, by omega, by go_num, by trivial, fun y hy => by
            obtain ⟨h1, e⟩ := List.getElem?_eq_some_iff.1 HXM.out
            rw [List.take_succ_eq_append_getElem h1, e] at hy
            rcases List.mem_append.1 hy with hy | hy
            · exact HT.out y hy
            · simp at hy; subst hy; exact hb⟩
          case measure => simp [intOf]; omega
        | false =>
          rw [hb] at HX
          have HR : Hid (r = (t == [])) := by
            show _ = _
            rw [HB.out]
            have : ps.all nameB = false := by
              rw [Bool.eq_false_iff]
              intro h
              have := List.all_eq_true.1 h x (List.mem_of_getElem? HXM.out)
              rw [hb] at this
              cases this
            rw [this, Bool.or_false]
          go_wp2_with (go_at_call 29; refine (HX.out _).mono ?_; rintro e w' ⟨rfl, rfl⟩)
          go_ret
          exact ⟨by rw [HR.out]; cases t <;> rfl, HBW.out⟩
      · have hk2 : k = ps.length := by omega
        subst hk2
        have d0 := no hlt
        have ht := HT.out
        rw [List.take_length] at ht
        have HR : Hid (r = true) := by show _ = _; rw [HB.out, List.all_eq_true.2 ht, Bool.or_true]
        clear hlt ht
        go_wp2
        go_ret
        exact ⟨by rw [HR.out]; rfl, HBW.out⟩
  · have e1 := Pat.not_nb (n := 47) rfl c1
    have HB : Hid (pathB (c :: t) = false) := by show _ = _; unfold pathB; simp [c1]
    clear c1
    go_enter Tryz.func16, Tryz.ntmps16
    go_wp2
    go_ret
    exact ⟨by rw [HB.out]; rfl, Below.refl _ _⟩
end Go.Proofs.YtnecmpgcjgkheaaGreat.Fil
