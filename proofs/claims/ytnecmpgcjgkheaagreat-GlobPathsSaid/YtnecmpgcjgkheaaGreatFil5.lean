/-
  The walks of layer 18's reference: Clean, Dir, Name; files.Part. Conditions: texts of at most 2^28 bytes; the library's variable MaxLen holds some number.
-/
import Derived.Test.YtnecmpgcjgkheaaGreatFil3
import Derived.Test.YtnecmpgcjgkheaaGreatFil4
import Derived.Test.YtnecmpgcjgkheaaGreatKeyed3
set_option linter.unusedSimpArgs false
set_option linter.unusedVariables false
namespace Go.Proofs.YtnecmpgcjgkheaaGreat.Fil
open Go.ChangeShapes Go.WideShapes Go.Deep Go.RowKit Pat
set_option maxRecDepth 100000
theorem fold_take (ps : List (List UInt8)) (k : Nat) (x : List UInt8) (h : ps[k]? = some x) : (ps.take (k + 1)).foldl step [] = step ((ps.take k).foldl step []) x := by
  obtain ⟨h1, rfl⟩ := List.getElem?_eq_some_iff.1 h
  rw [List.take_succ_eq_append_getElem h1, List.foldl_append]
  rfl
theorem joinN_take (ns : List (List UInt8)) (k : Nat) (x : List UInt8) (h : ns[k]? = some x) : joinN (ns.take (k + 1)) = joinN (ns.take k) ++ 47 :: x := by
  obtain ⟨h1, rfl⟩ := List.getElem?_eq_some_iff.1 h
  rw [List.take_succ_eq_append_getElem h1, joinN_app]
  simp [joinN]
theorem joinN_le (ns : List (List UInt8)) (k : Nat) : (joinN (ns.take k)).length ≤ (joinN ns).length := by
  conv => rhs; rw [← List.take_append_drop k ns, joinN_app, List.length_append]
  omega
theorem joinN_nil {ns : List (List UInt8)} (h : joinN ns = []) : ns = [] := by
  cases ns with
  | nil => rfl
  | cons n r => simp [joinN] at h
set_option maxHeartbeats 6400000 in
theorem refClean_any (dir text : List UInt8) (w : World) (hd : dir.length ≤ 268435456) (ht : text.length ≤ 268435456) : Calls Tryz.prog 34 #[.string (B dir), .string (B text)] w fun e w' => e = .returned (.string (B (cleanL dir text))) ∧ Below w.heap.size w w' := by
  obtain ⟨i0, hi0, hz00, hz01, hz02⟩ := info_parts info_str
  have hsl : (startL dir text).length ≤ 536870913 := by
    unfold startL
    split
    · omega
    · rw [List.length_append, List.length_cons]; omega
  have HPT := Lib.hid fun W => refParts_any (startL dir text) W (by omega)
  have hps := partsL_len (startL dir text)
  have HFL := Lib.hid fun (q : List (List UInt8)) (h : q.length ≤ (partsL (startL dir text)).length) => (show (q.foldl step []).length ≤ 536870914 by have := fold_len q []; simp at this; omega)
  have HCL := Lib.hid (show cleanL dir text = if namesL dir text = [] then [47] else joinN (namesL dir text) from rfl)
  have HNL := Lib.hid (show (partsL (startL dir text)).foldl step [] = namesL dir text from rfl)
  have hjl := names_jlen dir text
  have hst : text.head? = some 47 ∧ startL dir text = text ∨ text.head? ≠ some 47 ∧ startL dir text = dir ++ 47 :: text := by
    by_cases h : text.head? = some 47
    · exact .inl ⟨h, startL_yes h⟩
    · exact .inr ⟨h, startL_no h⟩
  generalize namesL dir text = ns at *
  generalize cleanL dir text = res at *
  generalize partsL (startL dir text) = ps at *
  have hcase : (∃ r, text = 47 :: r ∧ startL dir text = text) ∨ (text = [] ∧ startL dir text = dir ++ 47 :: text) ∨ (∃ c r, text = c :: r ∧ c ≠ 47 ∧ startL dir text = dir ++ 47 :: text) := by
    rcases hst with ⟨h1, h2⟩ | ⟨h1, h2⟩
    · cases text with
      | nil => cases h1
      | cons c r => simp at h1; subst h1; exact .inl ⟨r, rfl, h2⟩
    · cases text with
      | nil => exact .inr (.inl ⟨rfl, h2⟩)
      | cons c r => exact .inr (.inr ⟨c, r, rfl, by simpa using h1, h2⟩)
  clear hst
  rcases hcase with ⟨r, rfl, hst⟩ | ⟨rfl, hst⟩ | ⟨c, r, rfl, hc, hst⟩
  · rw [hst] at HPT
    clear hst
    go_enter Tryz.func34, Tryz.ntmps34
    go_wp2_with (go_at_call 28; refine (HPT.out _).mono ?_; rintro e w1 ⟨v1, rfl, ho, hb⟩; have HO := Lib.hid ho; have HBW := Lib.hid hb; obtain ⟨A, cc, rfl, -⟩ := ho.form0; clear ho hb)
    go_loopw [6, 7] (fun o i w' => ∃ (v : Value) (k : Nat), v = o ∧ k ≤ ps.length ∧ i = .int .i64 k ∧ Hid (Own w' w.heap.size 1 v ((ps.take k).foldl step []).length (((ps.take k).foldl step []).flatMap strC)) ∧ Hid (Below w1.heap.size w1 w')) (fun _ i _ => ps.length - (intOf i).toNat)
    case atStart => exact ⟨_, 0, rfl, by omega, rfl, Own.nil _ _ _, Below.refl _ _⟩
    case round =>
      obtain ⟨v, k, rfl, hk, rfl, HV, HB⟩ := hrel
      have hbs := HB.out.size
      have hbs1 := HBW.out.size
      by_cases hlt : k < ps.length
      · obtain ⟨g, off, rfl⟩ : ∃ g off, A = some ⟨g, off, none⟩ := by
          obtain ⟨g, off, c', e, -⟩ := HO.out.form' (by omega)
          injection e with e1
          exact ⟨g, off, e1⟩
        obtain ⟨x, hxm⟩ := get_some hlt
        obtain ⟨e0, hg⟩ := own_str (HO.out.below HB.out) hxm
        have HG1 := Lib.hid (own_str HO.out hxm).2
        haveI : Old wr g := ⟨hg⟩
        have k0 : (0 : Int) ≤ (k : Int) := by omega
        have k1 : (k : Int) < (ps.length : Int) := by omega
        have hnl := HFL.out (ps.take k) (by rw [List.length_take]; omega)
        have hft := fold_take ps k x hxm
        have HFT := Lib.hid hft
        clear hxm hft
        generalize (ps.take k).foldl step [] = cur at *
        by_cases x3 : x = [46, 46]
        · subst x3
          have hstp : step cur [46, 46] = cur.dropLast := by unfold step; rw [if_pos rfl]
          have HST := Lib.hid hstp
          clear hstp
          rcases Nat.eq_zero_or_pos cur.length with z | z
          · have hz := no (show ¬ 0 < cur.length by omega)
            have HC0 := Lib.hid (List.eq_nil_of_length_eq_zero z)
            have hz2 : cur.length = 0 := z
            obtain ⟨A2, c2, rfl, -⟩ := HV.out.form0
            clear z
            go_wp2
            go_roundw
            case rel => exact ⟨_, k + 1, rfl, by omega, by go_num, by show Own _ _ _ _ _ _; rw [HFT.out, HST.out, HC0.out]; have := HV.out; rw [HC0.out] at this; exact this, HB.out⟩
            case measure => simp [intOf]; omega
          · obtain ⟨g2, off2, c2, rfl, f1, f2, f3, f4⟩ := HV.out.form' z
            have hcut := own_cut (m := cur.length - 1) HV.out z (by omega)
            have HCUT : Hid (Own wr w.heap.size 1 (.slice (some ⟨g2, off2, none⟩) (cur.length - 1) c2) (step cur [46, 46]).length ((step cur [46, 46]).flatMap strC)) := by
              show Own _ _ _ _ _ _
              rw [HST.out, List.length_dropLast, List.dropLast_eq_take, str_take]
              exact hcut
            have z1 : (0 : Int) < (cur.length : Int) := by omega
            have z2 : IntKind.i64.wrap ((cur.length : Int) - 1) = (cur.length : Int) - 1 := IntWalk.i64_in _ (by omega)
            have z3 : (0 : Int) ≤ (cur.length : Int) - 1 := by omega
            have z4 : (cur.length : Int) - 1 ≤ (c2 : Int) := by omega
            have z5 : ((cur.length : Int) - 1).toNat = cur.length - 1 := by omega
            clear hcut
            go_wp2
            go_roundw
            case rel => exact ⟨_, k + 1, rfl, by omega, by go_num, by show Own _ _ _ _ _ _; rw [HFT.out]; exact HCUT.out, HB.out⟩
            case measure => simp [intOf]; omega
        have m3 : (x == [46, 46]) = false := by rw [beq_eq_false_iff_ne]; exact x3
        by_cases x1 : x = []
        · subst x1
          have HST := Lib.hid (show step cur [] = cur from rfl)
          clear x3
          go_wp2
          go_roundw
          case rel => exact ⟨v, k + 1, rfl, by omega, by go_num, by show Own _ _ _ _ _ _; rw [HFT.out, HST.out]; exact HV.out, HB.out⟩
          case measure => simp [intOf]; omega
        by_cases x2 : x = [46]
        · subst x2
          have HST := Lib.hid (show step cur [46] = cur from rfl)
          clear x3 x1
          go_wp2
          go_roundw
          case rel => exact ⟨v, k + 1, rfl, by omega, by go_num, by show Own _ _ _ _ _ _; rw [HFT.out, HST.out]; exact HV.out, HB.out⟩
          case measure => simp [intOf]; omega
        have HST := Lib.hid (show step cur x = cur ++ [x] by unfold step; rw [if_neg x3, if_neg (by simp [x1, x2])])
        have m1 : x.isEmpty = false := by simpa using x1
        have m2 : (x == [46]) = false := by rw [beq_eq_false_iff_ne]; exact x2
        clear x3 x1 x2
        go_wp2_with fail
        refine wp_region_keyed (fun W => W.cell? ⟨g, off + k, none⟩ = some (.string (B x))) [8] (by kernel_rfl) ?_
        have HE := Lib.hid (show wr.drew.cell? ⟨g, off + k, none⟩ = some (.string (B x)) from e0)
        have HG := Lib.hid (show g < wr.drew.heap.size from hg)
        have HV := Lib.hid (HV.out.below (below_drew (Below.refl _ _)))
        have HB := Lib.hid (below_drew HB.out)
        clear e0 hg hbs
        generalize wr.drew = D at *
        haveI : Old D g := ⟨HG.out⟩
        refine wpAnyK_take2 (i := 1) (some 55) (v := ?v1_1z2) rfl rfl (by kernel_rfl) (by kernel_rfl) (by kernel_rfl) (by kernel_rfl) (fun _ _ _ h => h) (Or.inl ⟨by rfl, ?y1_1z2⟩) (fun _ => HE.out) ?r1_1z2
        case y1_1z2 =>
          intro w hSw
          go_simp
          try with_reducible rfl
        try simp only [Act.put, List.setIfInBounds_toArray, List.set_cons_zero, List.set_cons_succ]
        refine wpAnyK_take2 (i := 3) (some 57) (v := ?v3_2z2) rfl rfl (by kernel_rfl) (by kernel_rfl) (by kernel_rfl) (by kernel_rfl) (fun _ _ _ h => h) (Or.inl ⟨by rfl, ?y3_2z2⟩) (fun _ => HE.out) ?r3_2z2
        case y3_2z2 =>
          intro w hSw
          go_simp
          try with_reducible rfl
        try simp only [Act.put, List.setIfInBounds_toArray, List.set_cons_zero, List.set_cons_succ]
        refine wpAnyK_take2 (i := 4) (some 58) (v := ?v4_3z2) rfl rfl (by kernel_rfl) (by kernel_rfl) (by kernel_rfl) (by kernel_rfl) (fun _ _ _ h => h) (Or.inl ⟨by rfl, ?y4_3z2⟩) (fun _ => HE.out) ?r4_3z2
        case y4_3z2 =>
          intro w hSw
          go_simp
          try with_reducible rfl
        try simp only [Act.put, List.setIfInBounds_toArray, List.set_cons_zero, List.set_cons_succ]
        refine wpAnyK_take2 (i := 5) (some 59) (v := ?v5_4z2) rfl rfl (by kernel_rfl) (by kernel_rfl) (by kernel_rfl) (by kernel_rfl) (fun _ _ _ h => h) (Or.inl ⟨by rfl, ?y5_4z2⟩) (fun _ => HE.out) ?r5_4z2
        case y5_4z2 =>
          intro w hSw
          go_simp
          try with_reducible rfl
        try simp only [Act.put, List.setIfInBounds_toArray, List.set_cons_zero, List.set_cons_succ]
        refine wpAnyK_load2 (i := 6) [7, 8, 9] (some 60) (v := ?v6_5z2) rfl rfl (by kernel_rfl) (by kernel_rfl) (by kernel_rfl) (by kernel_rfl) (by kernel_rfl) (fun _ _ _ h => h) (Or.inl ⟨by rfl, ?y6_5z2⟩) (fun _ => HE.out) ?r6_5z2
        case y6_5z2 =>
          intro w hSw
          (try dsimp only at hSw)
          go_split_ands
          go_simp
          try with_reducible rfl
        try simp only [Act.put, List.setIfInBounds_toArray, List.set_cons_zero, List.set_cons_succ]
        refine wpAnyK_ready (rs := [0, 7]) (by kernel_rfl) (by simp) ?_
        refine AllReadyK.cons (i := 0) rfl (fun K hK => ?_) ?_
        · go_simp
          have HN : Hid (Own (D.alloc (.cells #[] 9)) w.heap.size 1 (.slice (some ⟨D.heap.size, 0, none⟩) 0 0) 0 []) := Own.none_ _ _ _ _ _ (by simp)
          have HGE := Lib.hid HB.out.size
          have HE := Lib.hid ((cell_alloc_lt D (.cells #[] 9) g (off + k) none).trans HE.out)
          have HG := Lib.hid (Nat.lt_of_lt_of_le HG.out (below_alloc (Below.refl D.heap.size D) (.cells #[] 9)).size)
          have HV := Lib.hid (HV.out.below (below_alloc (Below.refl _ _) (.cells #[] 9)))
          have HB := Lib.hid (below_alloc HB.out (.cells #[] 9))
          try have hne : g7 ≠ D.heap.size := by have := HX.out.lt; omega
          try have HX := Lib.hid (HX.out.below (below_alloc (Below.refl _ _) (.cells #[] 9)))
          generalize D.heap.size = g0 at *
          generalize D.alloc (.cells #[] 9) = D at *
          haveI : Old D g := ⟨HG.out⟩
          refine hK.out _ _ (fun _ => HE.out) ?_
          clear hK K
          try simp only [Act.put, List.setIfInBounds_toArray, List.set_cons_zero, List.set_cons_succ]
          refine wpAnyK_ready (rs := [2, 7]) (by kernel_rfl) (by simp) ?_
          refine AllReadyK.cons (i := 2) rfl (fun K hK => ?_) ?_
          · have hbz := HB.out.size
            (refine step_append_src _ rfl (.tmp 54) (.tmp 55) _ rfl w.heap.size 9 i0 _ 1 16 Tryz.underlying26 hi0 hz00 hz01 hz02 rfl (by decide) _ 0 [] rfl HN.out _ cur.length (cur.flatMap strC) rfl (by rw [strC_flat, Nat.mul_one]) ((HV.out.sl strC_len rfl).src strC_len) strC_one (by unfold maxLen; omega) (by omega) (by first | (simp; done) | omega | (simp; omega)) ?_; intro v3 w3 hown3 hg3 hat3 hty3; have HTY3 := Lib.hid hty3; clear hty3)
            have HE := Lib.hid ((World.cell?_of_block (w := D) (hg3.block g HG.out (fun e => by have h9 : g0 = g := Option.some.inj e.1; have := HGE.out; have := HG1.out; omega))).trans HE.out)
            have HG := Lib.hid (Nat.lt_of_lt_of_le HG.out hg3.size)
            have HB := Lib.hid (below_keeps HB.out hg3 (fun k hk => by have h9 : g0 = k := Option.some.inj hk.1; have := HGE.out; omega))
            try have HX := Lib.hid (HX.out.keeps hg3 (fun hf => hne (Option.some.inj hf.1).symm))
            have HO2 := Lib.hid hown3
            have HAT := Lib.hid (show ∀ k, v3.ownBlock = some k → w1.heap.size ≤ k from fun k hk => by
              rcases hat3 with e | e
              · rw [e] at hk; have h9 : g0 = k := Option.some.inj hk; have := HGE.out; omega
              · have := e k hk; omega)
            clear hown3 hg3 hat3 hbz HV HN
            obtain ⟨D, rfl⟩ : ∃ W, W = w3 := ⟨_, rfl⟩
            haveI : Old D g := ⟨HG.out⟩
            refine hK.out _ _ (fun _ => HE.out) ?_
            clear hK K
            try simp only [Act.put, List.setIfInBounds_toArray, List.set_cons_zero, List.set_cons_succ]
            refine wpAnyK_ready (rs := [7]) (by kernel_rfl) (by simp) ?_
            refine AllReadyK.cons (i := 7) rfl (fun K hK => ?_) ?_
            · go_simp
              have HE := Lib.hid ((cell_alloc_lt D (.cells #[.string (B x)] 9) g (off + k) none).trans HE.out)
              have HG := Lib.hid (Nat.lt_of_lt_of_le HG.out (below_alloc (Below.refl D.heap.size D) (.cells #[.string (B x)] 9)).size)
              try have HV := Lib.hid (HV.out.below (below_alloc (Below.refl _ _) (.cells #[.string (B x)] 9)))
              have HB := Lib.hid (below_alloc HB.out (.cells #[.string (B x)] 9))
              have HX := Lib.hid (BoxN.new D (strC x) 9)
              try have hne : D.heap.size ≠ g0 := by have := HN.out.lt g0 rfl; omega
              try have HN := Lib.hid (HN.out.below (below_alloc (Below.refl _ _) (.cells #[.string (B x)] 9)))
              try have HO2 := Lib.hid (HO2.out.below (below_alloc (Below.refl _ _) (.cells #[.string (B x)] 9)))
              unfold strC at HX
              generalize D.heap.size = g7 at *
              generalize D.alloc (.cells #[.string (B x)] 9) = D at *
              haveI : Old D g := ⟨HG.out⟩
              refine hK.out _ _ (fun _ => HE.out) ?_
              clear hK K
              try simp only [Act.put, List.setIfInBounds_toArray, List.set_cons_zero, List.set_cons_succ]
              refine wpAnyK_ready (rs := [8]) (by kernel_rfl) (by simp) ?_
              refine AllReadyK.cons (i := 8) rfl (fun K hK => ?_) ?_
              · have hbz := HB.out.size
                (refine step_append_src _ rfl (.tmp 56) (.tmp 61) _ rfl w.heap.size 9 i0 _ 1 16 Tryz.underlying26 hi0 hz00 hz01 hz02 rfl (by decide) _ (0 + cur.length) ([] ++ cur.flatMap strC) rfl HO2.out _ 1 (strC x) rfl rfl HX.out.src (by simp [strC, Value.oneCell']) (by unfold maxLen; omega) (by omega) (by first | (simp; done) | omega | (simp; omega)) ?_; intro v8 w8 hown8 hg8 hat8 hty8; have HTY8 := Lib.hid hty8; clear hty8)
                have HO8 := Lib.hid hown8
                have HB8 := Lib.hid (below_keeps HB.out hg8 (fun k hk => HAT.out k hk.1))
                clear hown8 hg8 hat8 hbz
                obtain ⟨D, rfl⟩ : ∃ W, W = w8 := ⟨_, rfl⟩
                refine hK.out _ _ (fun h => Bool.noConfusion ((show unl _ _ = false by kernel_rfl).symm.trans h)) ?_
                clear hK K
                try simp only [Act.put, List.setIfInBounds_toArray, List.set_cons_zero, List.set_cons_succ]
                refine wpAnyK_take2 (i := 9) (some 6) (v := ?v9_6z2) rfl rfl (by kernel_rfl) (by kernel_rfl) (by kernel_rfl) (by kernel_rfl) (fun _ _ _ h => h) (Or.inl ⟨by rfl, ?y9_6z2⟩) (fun h => Bool.noConfusion ((show unl _ _ = false by kernel_rfl).symm.trans h)) ?r9_6z2
                case y9_6z2 =>
                  intro w hSw
                  go_simp
                  try with_reducible rfl
                try simp only [Act.put, List.setIfInBounds_toArray, List.set_cons_zero, List.set_cons_succ]
                refine wpAnyK_done (by kernel_rfl) ?_ _
                go_wp2_with fail
                go_roundw
                case rel => exact ⟨v8, k + 1, rfl, by omega, by go_num, by show Own _ _ _ _ _ _; rw [HFT.out, HST.out]; simpa [List.flatMap_append] using HO8.out, HB8.out⟩
                case measure => simp [intOf]; omega
              exact AllReadyK.nil
            exact AllReadyK.nil
          refine AllReadyK.cons (i := 7) rfl (fun K hK => ?_) ?_
          · go_simp
            have HE := Lib.hid ((cell_alloc_lt D (.cells #[.string (B x)] 9) g (off + k) none).trans HE.out)
            have HG := Lib.hid (Nat.lt_of_lt_of_le HG.out (below_alloc (Below.refl D.heap.size D) (.cells #[.string (B x)] 9)).size)
            try have HV := Lib.hid (HV.out.below (below_alloc (Below.refl _ _) (.cells #[.string (B x)] 9)))
            have HB := Lib.hid (below_alloc HB.out (.cells #[.string (B x)] 9))
            have HX := Lib.hid (BoxN.new D (strC x) 9)
            try have hne : D.heap.size ≠ g0 := by have := HN.out.lt g0 rfl; omega
            try have HN := Lib.hid (HN.out.below (below_alloc (Below.refl _ _) (.cells #[.string (B x)] 9)))
            try have HO2 := Lib.hid (HO2.out.below (below_alloc (Below.refl _ _) (.cells #[.string (B x)] 9)))
            unfold strC at HX
            generalize D.heap.size = g7 at *
            generalize D.alloc (.cells #[.string (B x)] 9) = D at *
            haveI : Old D g := ⟨HG.out⟩
            refine hK.out _ _ (fun _ => HE.out) ?_
            clear hK K
            try simp only [Act.put, List.setIfInBounds_toArray, List.set_cons_zero, List.set_cons_succ]
            refine wpAnyK_ready (rs := [2]) (by kernel_rfl) (by simp) ?_
            refine AllReadyK.cons (i := 2) rfl (fun K hK => ?_) ?_
            · have hbz := HB.out.size
              (refine step_append_src _ rfl (.tmp 54) (.tmp 55) _ rfl w.heap.size 9 i0 _ 1 16 Tryz.underlying26 hi0 hz00 hz01 hz02 rfl (by decide) _ 0 [] rfl HN.out _ cur.length (cur.flatMap strC) rfl (by rw [strC_flat, Nat.mul_one]) ((HV.out.sl strC_len rfl).src strC_len) strC_one (by unfold maxLen; omega) (by omega) (by first | (simp; done) | omega | (simp; omega)) ?_; intro v3 w3 hown3 hg3 hat3 hty3; have HTY3 := Lib.hid hty3; clear hty3)
              have HE := Lib.hid ((World.cell?_of_block (w := D) (hg3.block g HG.out (fun e => by have h9 : g0 = g := Option.some.inj e.1; have := HGE.out; have := HG1.out; omega))).trans HE.out)
              have HG := Lib.hid (Nat.lt_of_lt_of_le HG.out hg3.size)
              have HB := Lib.hid (below_keeps HB.out hg3 (fun k hk => by have h9 : g0 = k := Option.some.inj hk.1; have := HGE.out; omega))
              try have HX := Lib.hid (HX.out.keeps hg3 (fun hf => hne (Option.some.inj hf.1).symm))
              have HO2 := Lib.hid hown3
              have HAT := Lib.hid (show ∀ k, v3.ownBlock = some k → w1.heap.size ≤ k from fun k hk => by
                rcases hat3 with e | e
                · rw [e] at hk; have h9 : g0 = k := Option.some.inj hk; have := HGE.out; omega
                · have := e k hk; omega)
              clear hown3 hg3 hat3 hbz HV HN
              obtain ⟨D, rfl⟩ : ∃ W, W = w3 := ⟨_, rfl⟩
              haveI : Old D g := ⟨HG.out⟩
              refine hK.out _ _ (fun _ => HE.out) ?_
              clear hK K
              try simp only [Act.put, List.setIfInBounds_toArray, List.set_cons_zero, List.set_cons_succ]
              refine wpAnyK_ready (rs := [8]) (by kernel_rfl) (by simp) ?_
              refine AllReadyK.cons (i := 8) rfl (fun K hK => ?_) ?_
              · have hbz := HB.out.size
                (refine step_append_src _ rfl (.tmp 56) (.tmp 61) _ rfl w.heap.size 9 i0 _ 1 16 Tryz.underlying26 hi0 hz00 hz01 hz02 rfl (by decide) _ (0 + cur.length) ([] ++ cur.flatMap strC) rfl HO2.out _ 1 (strC x) rfl rfl HX.out.src (by simp [strC, Value.oneCell']) (by unfold maxLen; omega) (by omega) (by first | (simp; done) | omega | (simp; omega)) ?_; intro v8 w8 hown8 hg8 hat8 hty8; have HTY8 := Lib.hid hty8; clear hty8)
                have HO8 := Lib.hid hown8
                have HB8 := Lib.hid (below_keeps HB.out hg8 (fun k hk => HAT.out k hk.1))
                clear hown8 hg8 hat8 hbz
                obtain ⟨D, rfl⟩ : ∃ W, W = w8 := ⟨_, rfl⟩
                refine hK.out _ _ (fun h => Bool.noConfusion ((show unl _ _ = false by kernel_rfl).symm.trans h)) ?_
                clear hK K
                try simp only [Act.put, List.setIfInBounds_toArray, List.set_cons_zero, List.set_cons_succ]
                refine wpAnyK_take2 (i := 9) (some 6) (v := ?v9_7z2) rfl rfl (by kernel_rfl) (by kernel_rfl) (by kernel_rfl) (by kernel_rfl) (fun _ _ _ h => h) (Or.inl ⟨by rfl, ?y9_7z2⟩) (fun h => Bool.noConfusion ((show unl _ _ = false by kernel_rfl).symm.trans h)) ?r9_7z2
                case y9_7z2 =>
                  intro w hSw
                  go_simp
                  try with_reducible rfl
                try simp only [Act.put, List.setIfInBounds_toArray, List.set_cons_zero, List.set_cons_succ]
                refine wpAnyK_done (by kernel_rfl) ?_ _
                go_wp2_with fail
                go_roundw
                case rel => exact ⟨v8, k + 1, rfl, by omega, by go_num, by show Own _ _ _ _ _ _; rw [HFT.out, HST.out]; simpa [List.flatMap_append] using HO8.out, HB8.out⟩
                case measure => simp [intOf]; omega
              exact AllReadyK.nil
            exact AllReadyK.nil
          exact AllReadyK.nil
        refine AllReadyK.cons (i := 7) rfl (fun K hK => ?_) ?_
        · go_simp
          have HE := Lib.hid ((cell_alloc_lt D (.cells #[.string (B x)] 9) g (off + k) none).trans HE.out)
          have HG := Lib.hid (Nat.lt_of_lt_of_le HG.out (below_alloc (Below.refl D.heap.size D) (.cells #[.string (B x)] 9)).size)
          try have HV := Lib.hid (HV.out.below (below_alloc (Below.refl _ _) (.cells #[.string (B x)] 9)))
          have HB := Lib.hid (below_alloc HB.out (.cells #[.string (B x)] 9))
          have HX := Lib.hid (BoxN.new D (strC x) 9)
          try have hne : D.heap.size ≠ g0 := by have := HN.out.lt g0 rfl; omega
          try have HN := Lib.hid (HN.out.below (below_alloc (Below.refl _ _) (.cells #[.string (B x)] 9)))
          try have HO2 := Lib.hid (HO2.out.below (below_alloc (Below.refl _ _) (.cells #[.string (B x)] 9)))
          unfold strC at HX
          generalize D.heap.size = g7 at *
          generalize D.alloc (.cells #[.string (B x)] 9) = D at *
          haveI : Old D g := ⟨HG.out⟩
          refine hK.out _ _ (fun _ => HE.out) ?_
          clear hK K
          try simp only [Act.put, List.setIfInBounds_toArray, List.set_cons_zero, List.set_cons_succ]
          refine wpAnyK_ready (rs := [0]) (by kernel_rfl) (by simp) ?_
          refine AllReadyK.cons (i := 0) rfl (fun K hK => ?_) ?_
          · go_simp
            have HN : Hid (Own (D.alloc (.cells #[] 9)) w.heap.size 1 (.slice (some ⟨D.heap.size, 0, none⟩) 0 0) 0 []) := Own.none_ _ _ _ _ _ (by simp)
            have HGE := Lib.hid HB.out.size
            have HE := Lib.hid ((cell_alloc_lt D (.cells #[] 9) g (off + k) none).trans HE.out)
            have HG := Lib.hid (Nat.lt_of_lt_of_le HG.out (below_alloc (Below.refl D.heap.size D) (.cells #[] 9)).size)
            have HV := Lib.hid (HV.out.below (below_alloc (Below.refl _ _) (.cells #[] 9)))
            have HB := Lib.hid (below_alloc HB.out (.cells #[] 9))
            try have hne : g7 ≠ D.heap.size := by have := HX.out.lt; omega
            try have HX := Lib.hid (HX.out.below (below_alloc (Below.refl _ _) (.cells #[] 9)))
            generalize D.heap.size = g0 at *
            generalize D.alloc (.cells #[] 9) = D at *
            haveI : Old D g := ⟨HG.out⟩
            refine hK.out _ _ (fun _ => HE.out) ?_
            clear hK K
            try simp only [Act.put, List.setIfInBounds_toArray, List.set_cons_zero, List.set_cons_succ]
            refine wpAnyK_ready (rs := [2]) (by kernel_rfl) (by simp) ?_
            refine AllReadyK.cons (i := 2) rfl (fun K hK => ?_) ?_
            · have hbz := HB.out.size
              (refine step_append_src _ rfl (.tmp 54) (.tmp 55) _ rfl w.heap.size 9 i0 _ 1 16 Tryz.underlying26 hi0 hz00 hz01 hz02 rfl (by decide) _ 0 [] rfl HN.out _ cur.length (cur.flatMap strC) rfl (by rw [strC_flat, Nat.mul_one]) ((HV.out.sl strC_len rfl).src strC_len) strC_one (by unfold maxLen; omega) (by omega) (by first | (simp; done) | omega | (simp; omega)) ?_; intro v3 w3 hown3 hg3 hat3 hty3; have HTY3 := Lib.hid hty3; clear hty3)
              have HE := Lib.hid ((World.cell?_of_block (w := D) (hg3.block g HG.out (fun e => by have h9 : g0 = g := Option.some.inj e.1; have := HGE.out; have := HG1.out; omega))).trans HE.out)
              have HG := Lib.hid (Nat.lt_of_lt_of_le HG.out hg3.size)
              have HB := Lib.hid (below_keeps HB.out hg3 (fun k hk => by have h9 : g0 = k := Option.some.inj hk.1; have := HGE.out; omega))
              try have HX := Lib.hid (HX.out.keeps hg3 (fun hf => hne (Option.some.inj hf.1).symm))
              have HO2 := Lib.hid hown3
              have HAT := Lib.hid (show ∀ k, v3.ownBlock = some k → w1.heap.size ≤ k from fun k hk => by
                rcases hat3 with e | e
                · rw [e] at hk; have h9 : g0 = k := Option.some.inj hk; have := HGE.out; omega
                · have := e k hk; omega)
              clear hown3 hg3 hat3 hbz HV HN
              obtain ⟨D, rfl⟩ : ∃ W, W = w3 := ⟨_, rfl⟩
              haveI : Old D g := ⟨HG.out⟩
              refine hK.out _ _ (fun _ => HE.out) ?_
              clear hK K
              try simp only [Act.put, List.setIfInBounds_toArray, List.set_cons_zero, List.set_cons_succ]
              refine wpAnyK_ready (rs := [8]) (by kernel_rfl) (by simp) ?_
              refine AllReadyK.cons (i := 8) rfl (fun K hK => ?_) ?_
              · have hbz := HB.out.size
                (refine step_append_src _ rfl (.tmp 56) (.tmp 61) _ rfl w.heap.size 9 i0 _ 1 16 Tryz.underlying26 hi0 hz00 hz01 hz02 rfl (by decide) _ (0 + cur.length) ([] ++ cur.flatMap strC) rfl HO2.out _ 1 (strC x) rfl rfl HX.out.src (by simp [strC, Value.oneCell']) (by unfold maxLen; omega) (by omega) (by first | (simp; done) | omega | (simp; omega)) ?_; intro v8 w8 hown8 hg8 hat8 hty8; have HTY8 := Lib.hid hty8; clear hty8)
                have HO8 := Lib.hid hown8
                have HB8 := Lib.hid (below_keeps HB.out hg8 (fun k hk => HAT.out k hk.1))
                clear hown8 hg8 hat8 hbz
                obtain ⟨D, rfl⟩ : ∃ W, W = w8 := ⟨_, rfl⟩
                refine hK.out _ _ (fun h => Bool.noConfusion ((show unl _ _ = false by kernel_rfl).symm.trans h)) ?_
                clear hK K
                try simp only [Act.put, List.setIfInBounds_toArray, List.set_cons_zero, List.set_cons_succ]
                refine wpAnyK_take2 (i := 9) (some 6) (v := ?v9_8z2) rfl rfl (by kernel_rfl) (by kernel_rfl) (by kernel_rfl) (by kernel_rfl) (fun _ _ _ h => h) (Or.inl ⟨by rfl, ?y9_8z2⟩) (fun h => Bool.noConfusion ((show unl _ _ = false by kernel_rfl).symm.trans h)) ?r9_8z2
                case y9_8z2 =>
                  intro w hSw
                  go_simp
                  try with_reducible rfl
                try simp only [Act.put, List.setIfInBounds_toArray, List.set_cons_zero, List.set_cons_succ]
                refine wpAnyK_done (by kernel_rfl) ?_ _
                go_wp2_with fail
                go_roundw
                case rel => exact ⟨v8, k + 1, rfl, by omega, by go_num, by show Own _ _ _ _ _ _; rw [HFT.out, HST.out]; simpa [List.flatMap_append] using HO8.out, HB8.out⟩
                case measure => simp [intOf]; omega
              exact AllReadyK.nil
            exact AllReadyK.nil
          exact AllReadyK.nil
        exact AllReadyK.nil
      · have hk2 : k = ps.length := by omega
        subst hk2
        have d0 := no hlt
        have ho := HV.out
        rw [List.take_length, HNL.out] at ho
        have HN := Lib.hid ho
        have hnl := HFL.out ps (Nat.le_refl _)
        rw [HNL.out] at hnl
        have hjn := hjl
        obtain ⟨A2, c2, rfl, -⟩ := ho.form0
        clear hlt ho HV
        go_wp2_with fail
        go_loopw [8, 9] (fun o i w' => ∃ (j : Nat), j ≤ ns.length ∧ o = .string (B (joinN (ns.take j))) ∧ i = .int .i64 j ∧ wr = w') (fun _ i _ => ns.length - (intOf i).toNat)
        case atStart => exact ⟨0, by omega, rfl, rfl, rfl⟩
        case round =>
          obtain ⟨j, hj, rfl, rfl, rfl⟩ := hrel
          by_cases hlt : j < ns.length
          · obtain ⟨g, off, rfl⟩ : ∃ g off, A2 = some ⟨g, off, none⟩ := by
              obtain ⟨g, off, c', e, -⟩ := HN.out.form' (by omega)
              injection e with e1
              exact ⟨g, off, e1⟩
            obtain ⟨x, hxm⟩ := get_some hlt
            obtain ⟨e0, hg⟩ := own_str HN.out hxm
            haveI : Old wr g := ⟨hg⟩
            have k0 : (0 : Int) ≤ (j : Int) := by omega
            have k1 : (j : Int) < (ns.length : Int) := by omega
            have hjt := joinN_take ns j x hxm
            have hjb := joinN_le ns (j + 1)
            rw [hjt, List.length_append, List.length_cons] at hjb
            have HJT := Lib.hid hjt
            clear hxm hjt
            generalize joinN (ns.take j) = cur at *
            have l1 : ((cur.length : Int) + 1) ≤ 9223372036854775807 := by omega
            have l2 : ((cur.length : Int) + 1 + (x.length : Int)) ≤ 9223372036854775807 := by omega
            go_wp2_with fail
            go_roundw
            case rel => exact ⟨j + 1, by omega, by rw [HJT.out], by go_num, by trivial⟩
            case measure => simp [intOf]; omega
          · have hj2 : j = ns.length := by omega
            subst hj2
            have d1 := no hlt
            rw [List.take_length]
            clear hlt
            have HBF := Lib.hid (below_then HBW.out HB.out)
            by_cases hn : ns = []
            · have HR : Hid (res = [47]) := by show _ = _; rw [HCL.out, if_pos hn]
              have hjz : joinN ns = [] := by rw [hn]; rfl
              rw [hjz]
              go_wp2_with fail
              go_ret
              exact ⟨by rw [HR.out]; rfl, HBF.out⟩
            · have HR : Hid (res = joinN ns) := by show _ = _; rw [HCL.out, if_neg hn]
              have hjz : (joinN ns == []) = false := by rw [beq_eq_false_iff_ne]; exact fun h => hn (joinN_nil h)
              have hjz2 : (joinN ns).isEmpty = false := by rw [List.isEmpty_eq_false_iff]; exact fun h => hn (joinN_nil h)
              generalize joinN ns = jn at *
              go_wp2_with fail
              go_ret
              exact ⟨by rw [HR.out]; rfl, HBF.out⟩
  · rw [hst] at HPT
    clear hst
    go_enter Tryz.func34, Tryz.ntmps34
    go_wp2_with (go_at_call 28; refine (HPT.out _).mono ?_; rintro e w1 ⟨v1, rfl, ho, hb⟩; have HO := Lib.hid ho; have HBW := Lib.hid hb; obtain ⟨A, cc, rfl, -⟩ := ho.form0; clear ho hb)
    go_loopw [6, 7] (fun o i w' => ∃ (v : Value) (k : Nat), v = o ∧ k ≤ ps.length ∧ i = .int .i64 k ∧ Hid (Own w' w.heap.size 1 v ((ps.take k).foldl step []).length (((ps.take k).foldl step []).flatMap strC)) ∧ Hid (Below w1.heap.size w1 w')) (fun _ i _ => ps.length - (intOf i).toNat)
    case atStart => exact ⟨_, 0, rfl, by omega, rfl, Own.nil _ _ _, Below.refl _ _⟩
    case round =>
      obtain ⟨v, k, rfl, hk, rfl, HV, HB⟩ := hrel
      have hbs := HB.out.size
      have hbs1 := HBW.out.size
      by_cases hlt : k < ps.length
      · obtain ⟨g, off, rfl⟩ : ∃ g off, A = some ⟨g, off, none⟩ := by
          obtain ⟨g, off, c', e, -⟩ := HO.out.form' (by omega)
          injection e with e1
          exact ⟨g, off, e1⟩
        obtain ⟨x, hxm⟩ := get_some hlt
        obtain ⟨e0, hg⟩ := own_str (HO.out.below HB.out) hxm
        have HG1 := Lib.hid (own_str HO.out hxm).2
        haveI : Old wr g := ⟨hg⟩
        have k0 : (0 : Int) ≤ (k : Int) := by omega
        have k1 : (k : Int) < (ps.length : Int) := by omega
        have hnl := HFL.out (ps.take k) (by rw [List.length_take]; omega)
        have hft := fold_take ps k x hxm
        have HFT := Lib.hid hft
        clear hxm hft
        generalize (ps.take k).foldl step [] = cur at *
        by_cases x3 : x = [46, 46]
        · subst x3
          have hstp : step cur [46, 46] = cur.dropLast := by unfold step; rw [if_pos rfl]
          have HST := Lib.hid hstp
          clear hstp
          rcases Nat.eq_zero_or_pos cur.length with z | z
          · have hz := no (show ¬ 0 < cur.length by omega)
            have HC0 := Lib.hid (List.eq_nil_of_length_eq_zero z)
            have hz2 : cur.length = 0 := z
            obtain ⟨A2, c2, rfl, -⟩ := HV.out.form0
            clear z
            go_wp2
            go_roundw
            case rel => exact ⟨_, k + 1, rfl, by omega, by go_num, by show Own _ _ _ _ _ _; rw [HFT.out, HST.out, HC0.out]; have := HV.out; rw [HC0.out] at this; exact this, HB.out⟩
            case measure => simp [intOf]; omega
          · obtain ⟨g2, off2, c2, rfl, f1, f2, f3, f4⟩ := HV.out.form' z
            have hcut := own_cut (m := cur.length - 1) HV.out z (by omega)
            have HCUT : Hid (Own wr w.heap.size 1 (.slice (some ⟨g2, off2, none⟩) (cur.length - 1) c2) (step cur [46, 46]).length ((step cur [46, 46]).flatMap strC)) := by
              show Own _ _ _ _ _ _
              rw [HST.out, List.length_dropLast, List.dropLast_eq_take, str_take]
              exact hcut
            have z1 : (0 : Int) < (cur.length : Int) := by omega
            have z2 : IntKind.i64.wrap ((cur.length : Int) - 1) = (cur.length : Int) - 1 := IntWalk.i64_in _ (by omega)
            have z3 : (0 : Int) ≤ (cur.length : Int) - 1 := by omega
            have z4 : (cur.length : Int) - 1 ≤ (c2 : Int) := by omega
            have z5 : ((cur.length : Int) - 1).toNat = cur.length - 1 := by omega
            clear hcut
            go_wp2
            go_roundw
            case rel => exact ⟨_, k + 1, rfl, by omega, by go_num, by show Own _ _ _ _ _ _; rw [HFT.out]; exact HCUT.out, HB.out⟩
            case measure => simp [intOf]; omega
        have m3 : (x == [46, 46]) = false := by rw [beq_eq_false_iff_ne]; exact x3
        by_cases x1 : x = []
        · subst x1
          have HST := Lib.hid (show step cur [] = cur from rfl)
          clear x3
          go_wp2
          go_roundw
          case rel => exact ⟨v, k + 1, rfl, by omega, by go_num, by show Own _ _ _ _ _ _; rw [HFT.out, HST.out]; exact HV.out, HB.out⟩
          case measure => simp [intOf]; omega
        by_cases x2 : x = [46]
        · subst x2
          have HST := Lib.hid (show step cur [46] = cur from rfl)
          clear x3 x1
          go_wp2
          go_roundw
          case rel => exact ⟨v, k + 1, rfl, by omega, by go_num, by show Own _ _ _ _ _ _; rw [HFT.out, HST.out]; exact HV.out, HB.out⟩
          case measure => simp [intOf]; omega
        have HST := Lib.hid (show step cur x = cur ++ [x] by unfold step; rw [if_neg x3, if_neg (by simp [x1, x2])])
        have m1 : x.isEmpty = false := by simpa using x1
        have m2 : (x == [46]) = false := by rw [beq_eq_false_iff_ne]; exact x2
        clear x3 x1 x2
        go_wp2_with fail
        refine wp_region_keyed (fun W => W.cell? ⟨g, off + k, none⟩ = some (.string (B x))) [8] (by kernel_rfl) ?_
        have HE := Lib.hid (show wr.drew.cell? ⟨g, off + k, none⟩ = some (.string (B x)) from e0)
        have HG := Lib.hid (show g < wr.drew.heap.size from hg)
        have HV := Lib.hid (HV.out.below (below_drew (Below.refl _ _)))
        have HB := Lib.hid (below_drew HB.out)
        clear e0 hg hbs
        generalize wr.drew = D at *
        haveI : Old D g := ⟨HG.out⟩
        refine wpAnyK_take2 (i := 1) (some 55) (v := ?v1_1z3) rfl rfl (by kernel_rfl) (by kernel_rfl) (by kernel_rfl) (by kernel_rfl) (fun _ _ _ h => h) (Or.inl ⟨by rfl, ?y1_1z3⟩) (fun _ => HE.out) ?r1_1z3
        case y1_1z3 =>
          intro w hSw
          go_simp
          try with_reducible rfl
        try simp only [Act.put, List.setIfInBounds_toArray, List.set_cons_zero, List.set_cons_succ]
        refine wpAnyK_take2 (i := 3) (some 57) (v := ?v3_2z3) rfl rfl (by kernel_rfl) (by kernel_rfl) (by kernel_rfl) (by kernel_rfl) (fun _ _ _ h => h) (Or.inl ⟨by rfl, ?y3_2z3⟩) (fun _ => HE.out) ?r3_2z3
        case y3_2z3 =>
          intro w hSw
          go_simp
          try with_reducible rfl
        try simp only [Act.put, List.setIfInBounds_toArray, List.set_cons_zero, List.set_cons_succ]
        refine wpAnyK_take2 (i := 4) (some 58) (v := ?v4_3z3) rfl rfl (by kernel_rfl) (by kernel_rfl) (by kernel_rfl) (by kernel_rfl) (fun _ _ _ h => h) (Or.inl ⟨by rfl, ?y4_3z3⟩) (fun _ => HE.out) ?r4_3z3
        case y4_3z3 =>
          intro w hSw
          go_simp
          try with_reducible rfl
        try simp only [Act.put, List.setIfInBounds_toArray, List.set_cons_zero, List.set_cons_succ]
        refine wpAnyK_take2 (i := 5) (some 59) (v := ?v5_4z3) rfl rfl (by kernel_rfl) (by kernel_rfl) (by kernel_rfl) (by kernel_rfl) (fun _ _ _ h => h) (Or.inl ⟨by rfl, ?y5_4z3⟩) (fun _ => HE.out) ?r5_4z3
        case y5_4z3 =>
          intro w hSw
          go_simp
          try with_reducible rfl
        try simp only [Act.put, List.setIfInBounds_toArray, List.set_cons_zero, List.set_cons_succ]
        refine wpAnyK_load2 (i := 6) [7, 8, 9] (some 60) (v := ?v6_5z3) rfl rfl (by kernel_rfl) (by kernel_rfl) (by kernel_rfl) (by kernel_rfl) (by kernel_rfl) (fun _ _ _ h => h) (Or.inl ⟨by rfl, ?y6_5z3⟩) (fun _ => HE.out) ?r6_5z3
        case y6_5z3 =>
          intro w hSw
          (try dsimp only at hSw)
          go_split_ands
          go_simp
          try with_reducible rfl
        try simp only [Act.put, List.setIfInBounds_toArray, List.set_cons_zero, List.set_cons_succ]
        refine wpAnyK_ready (rs := [0, 7]) (by kernel_rfl) (by simp) ?_
        refine AllReadyK.cons (i := 0) rfl (fun K hK => ?_) ?_
        · go_simp
          have HN : Hid (Own (D.alloc (.cells #[] 9)) w.heap.size 1 (.slice (some ⟨D.heap.size, 0, none⟩) 0 0) 0 []) := Own.none_ _ _ _ _ _ (by simp)
          have HGE := Lib.hid HB.out.size
          have HE := Lib.hid ((cell_alloc_lt D (.cells #[] 9) g (off + k) none).trans HE.out)
          have HG := Lib.hid (Nat.lt_of_lt_of_le HG.out (below_alloc (Below.refl D.heap.size D) (.cells #[] 9)).size)
          have HV := Lib.hid (HV.out.below (below_alloc (Below.refl _ _) (.cells #[] 9)))
          have HB := Lib.hid (below_alloc HB.out (.cells #[] 9))
          try have hne : g7 ≠ D.heap.size := by have := HX.out.lt; omega
          try have HX := Lib.hid (HX.out.below (below_alloc (Below.refl _ _) (.cells #[] 9)))
          generalize D.heap.size = g0 at *
          generalize D.alloc (.cells #[] 9) = D at *
          haveI : Old D g := ⟨HG.out⟩
          refine hK.out _ _ (fun _ => HE.out) ?_
          clear hK K
          try simp only [Act.put, List.setIfInBounds_toArray, List.set_cons_zero, List.set_cons_succ]
          refine wpAnyK_ready (rs := [2, 7]) (by kernel_rfl) (by simp) ?_
          refine AllReadyK.cons (i := 2) rfl (fun K hK => ?_) ?_
          · have hbz := HB.out.size
            (refine step_append_src _ rfl (.tmp 54) (.tmp 55) _ rfl w.heap.size 9 i0 _ 1 16 Tryz.underlying26 hi0 hz00 hz01 hz02 rfl (by decide) _ 0 [] rfl HN.out _ cur.length (cur.flatMap strC) rfl (by rw [strC_flat, Nat.mul_one]) ((HV.out.sl strC_len rfl).src strC_len) strC_one (by unfold maxLen; omega) (by omega) (by first | (simp; done) | omega | (simp; omega)) ?_; intro v3 w3 hown3 hg3 hat3 hty3; have HTY3 := Lib.hid hty3; clear hty3)
            have HE := Lib.hid ((World.cell?_of_block (w := D) (hg3.block g HG.out (fun e => by have h9 : g0 = g := Option.some.inj e.1; have := HGE.out; have := HG1.out; omega))).trans HE.out)
            have HG := Lib.hid (Nat.lt_of_lt_of_le HG.out hg3.size)
            have HB := Lib.hid (below_keeps HB.out hg3 (fun k hk => by have h9 : g0 = k := Option.some.inj hk.1; have := HGE.out; omega))
            try have HX := Lib.hid (HX.out.keeps hg3 (fun hf => hne (Option.some.inj hf.1).symm))
            have HO2 := Lib.hid hown3
            have HAT := Lib.hid (show ∀ k, v3.ownBlock = some k → w1.heap.size ≤ k from fun k hk => by
              rcases hat3 with e | e
              · rw [e] at hk; have h9 : g0 = k := Option.some.inj hk; have := HGE.out; omega
              · have := e k hk; omega)
            clear hown3 hg3 hat3 hbz HV HN
            obtain ⟨D, rfl⟩ : ∃ W, W = w3 := ⟨_, rfl⟩
            haveI : Old D g := ⟨HG.out⟩
            refine hK.out _ _ (fun _ => HE.out) ?_
            clear hK K
            try simp only [Act.put, List.setIfInBounds_toArray, List.set_cons_zero, List.set_cons_succ]
            refine wpAnyK_ready (rs := [7]) (by kernel_rfl) (by simp) ?_
            refine AllReadyK.cons (i := 7) rfl (fun K hK => ?_) ?_
            · go_simp
              have HE := Lib.hid ((cell_alloc_lt D (.cells #[.string (B x)] 9) g (off + k) none).trans HE.out)
              have HG := Lib.hid (Nat.lt_of_lt_of_le HG.out (below_alloc (Below.refl D.heap.size D) (.cells #[.string (B x)] 9)).size)
              try have HV := Lib.hid (HV.out.below (below_alloc (Below.refl _ _) (.cells #[.string (B x)] 9)))
              have HB := Lib.hid (below_alloc HB.out (.cells #[.string (B x)] 9))
              have HX := Lib.hid (BoxN.new D (strC x) 9)
              try have hne : D.heap.size ≠ g0 := by have := HN.out.lt g0 rfl; omega
              try have HN := Lib.hid (HN.out.below (below_alloc (Below.refl _ _) (.cells #[.string (B x)] 9)))
              try have HO2 := Lib.hid (HO2.out.below (below_alloc (Below.refl _ _) (.cells #[.string (B x)] 9)))
              unfold strC at HX
              generalize D.heap.size = g7 at *
              generalize D.alloc (.cells #[.string (B x)] 9) = D at *
              haveI : Old D g := ⟨HG.out⟩
              refine hK.out _ _ (fun _ => HE.out) ?_
              clear hK K
              try simp only [Act.put, List.setIfInBounds_toArray, List.set_cons_zero, List.set_cons_succ]
              refine wpAnyK_ready (rs := [8]) (by kernel_rfl) (by simp) ?_
              refine AllReadyK.cons (i := 8) rfl (fun K hK => ?_) ?_
              · have hbz := HB.out.size
                (refine step_append_src _ rfl (.tmp 56) (.tmp 61) _ rfl w.heap.size 9 i0 _ 1 16 Tryz.underlying26 hi0 hz00 hz01 hz02 rfl (by decide) _ (0 + cur.length) ([] ++ cur.flatMap strC) rfl HO2.out _ 1 (strC x) rfl rfl HX.out.src (by simp [strC, Value.oneCell']) (by unfold maxLen; omega) (by omega) (by first | (simp; done) | omega | (simp; omega)) ?_; intro v8 w8 hown8 hg8 hat8 hty8; have HTY8 := Lib.hid hty8; clear hty8)
                have HO8 := Lib.hid hown8
                have HB8 := Lib.hid (below_keeps HB.out hg8 (fun k hk => HAT.out k hk.1))
                clear hown8 hg8 hat8 hbz
                obtain ⟨D, rfl⟩ : ∃ W, W = w8 := ⟨_, rfl⟩
                refine hK.out _ _ (fun h => Bool.noConfusion ((show unl _ _ = false by kernel_rfl).symm.trans h)) ?_
                clear hK K
                try simp only [Act.put, List.setIfInBounds_toArray, List.set_cons_zero, List.set_cons_succ]
                refine wpAnyK_take2 (i := 9) (some 6) (v := ?v9_6z3) rfl rfl (by kernel_rfl) (by kernel_rfl) (by kernel_rfl) (by kernel_rfl) (fun _ _ _ h => h) (Or.inl ⟨by rfl, ?y9_6z3⟩) (fun h => Bool.noConfusion ((show unl _ _ = false by kernel_rfl).symm.trans h)) ?r9_6z3
                case y9_6z3 =>
                  intro w hSw
                  go_simp
                  try with_reducible rfl
                try simp only [Act.put, List.setIfInBounds_toArray, List.set_cons_zero, List.set_cons_succ]
                refine wpAnyK_done (by kernel_rfl) ?_ _
                go_wp2_with fail
                go_roundw
                case rel => exact ⟨v8, k + 1, rfl, by omega, by go_num, by show Own _ _ _ _ _ _; rw [HFT.out, HST.out]; simpa [List.flatMap_append] using HO8.out, HB8.out⟩
                case measure => simp [intOf]; omega
              exact AllReadyK.nil
            exact AllReadyK.nil
          refine AllReadyK.cons (i := 7) rfl (fun K hK => ?_) ?_
          · go_simp
            have HE := Lib.hid ((cell_alloc_lt D (.cells #[.string (B x)] 9) g (off + k) none).trans HE.out)
            have HG := Lib.hid (Nat.lt_of_lt_of_le HG.out (below_alloc (Below.refl D.heap.size D) (.cells #[.string (B x)] 9)).size)
            try have HV := Lib.hid (HV.out.below (below_alloc (Below.refl _ _) (.cells #[.string (B x)] 9)))
            have HB := Lib.hid (below_alloc HB.out (.cells #[.string (B x)] 9))
            have HX := Lib.hid (BoxN.new D (strC x) 9)
            try have hne : D.heap.size ≠ g0 := by have := HN.out.lt g0 rfl; omega
            try have HN := Lib.hid (HN.out.below (below_alloc (Below.refl _ _) (.cells #[.string (B x)] 9)))
            try have HO2 := Lib.hid (HO2.out.below (below_alloc (Below.refl _ _) (.cells #[.string (B x)] 9)))
            unfold strC at HX
            generalize D.heap.size = g7 at *
            generalize D.alloc (.cells #[.string (B x)] 9) = D at *
            haveI : Old D g := ⟨HG.out⟩
            refine hK.out _ _ (fun _ => HE.out) ?_
            clear hK K
            try simp only [Act.put, List.setIfInBounds_toArray, List.set_cons_zero, List.set_cons_succ]
            refine wpAnyK_ready (rs := [2]) (by kernel_rfl) (by simp) ?_
            refine AllReadyK.cons (i := 2) rfl (fun K hK => ?_) ?_
            · have hbz := HB.out.size
              (refine step_append_src _ rfl (.tmp 54) (.tmp 55) _ rfl w.heap.size 9 i0 _ 1 16 Tryz.underlying26 hi0 hz00 hz01 hz02 rfl (by decide) _ 0 [] rfl HN.out _ cur.length (cur.flatMap strC) rfl (by rw [strC_flat, Nat.mul_one]) ((HV.out.sl strC_len rfl).src strC_len) strC_one (by unfold maxLen; omega) (by omega) (by first | (simp; done) | omega | (simp; omega)) ?_; intro v3 w3 hown3 hg3 hat3 hty3; have HTY3 := Lib.hid hty3; clear hty3)
              have HE := Lib.hid ((World.cell?_of_block (w := D) (hg3.block g HG.out (fun e => by have h9 : g0 = g := Option.some.inj e.1; have := HGE.out; have := HG1.out; omega))).trans HE.out)
              have HG := Lib.hid (Nat.lt_of_lt_of_le HG.out hg3.size)
              have HB := Lib.hid (below_keeps HB.out hg3 (fun k hk => by have h9 : g0 = k := Option.some.inj hk.1; have := HGE.out; omega))
              try have HX := Lib.hid (HX.out.keeps hg3 (fun hf => hne (Option.some.inj hf.1).symm))
              have HO2 := Lib.hid hown3
              have HAT := Lib.hid (show ∀ k, v3.ownBlock = some k → w1.heap.size ≤ k from fun k hk => by
                rcases hat3 with e | e
                · rw [e] at hk; have h9 : g0 = k := Option.some.inj hk; have := HGE.out; omega
                · have := e k hk; omega)
              clear hown3 hg3 hat3 hbz HV HN
              obtain ⟨D, rfl⟩ : ∃ W, W = w3 := ⟨_, rfl⟩
              haveI : Old D g := ⟨HG.out⟩
              refine hK.out _ _ (fun _ => HE.out) ?_
              clear hK K
              try simp only [Act.put, List.setIfInBounds_toArray, List.set_cons_zero, List.set_cons_succ]
              refine wpAnyK_ready (rs := [8]) (by kernel_rfl) (by simp) ?_
              refine AllReadyK.cons (i := 8) rfl (fun K hK => ?_) ?_
              · have hbz := HB.out.size
                (refine step_append_src _ rfl (.tmp 56) (.tmp 61) _ rfl w.heap.size 9 i0 _ 1 16 Tryz.underlying26 hi0 hz00 hz01 hz02 rfl (by decide) _ (0 + cur.length) ([] ++ cur.flatMap strC) rfl HO2.out _ 1 (strC x) rfl rfl HX.out.src (by simp [strC, Value.oneCell']) (by unfold maxLen; omega) (by omega) (by first | (simp; done) | omega | (simp; omega)) ?_; intro v8 w8 hown8 hg8 hat8 hty8; have HTY8 := Lib.hid hty8; clear hty8)
                have HO8 := Lib.hid hown8
                have HB8 := Lib.hid (below_keeps HB.out hg8 (fun k hk => HAT.out k hk.1))
                clear hown8 hg8 hat8 hbz
                obtain ⟨D, rfl⟩ : ∃ W, W = w8 := ⟨_, rfl⟩
                refine hK.out _ _ (fun h => Bool.noConfusion ((show unl _ _ = false by kernel_rfl).symm.trans h)) ?_
                clear hK K
                try simp only [Act.put, List.setIfInBounds_toArray, List.set_cons_zero, List.set_cons_succ]
                refine wpAnyK_take2 (i := 9) (some 6) (v := ?v9_7z3) rfl rfl (by kernel_rfl) (by kernel_rfl) (by kernel_rfl) (by kernel_rfl) (fun _ _ _ h => h) (Or.inl ⟨by rfl, ?y9_7z3⟩) (fun h => Bool.noConfusion ((show unl _ _ = false by kernel_rfl).symm.trans h)) ?r9_7z3
                case y9_7z3 =>
                  intro w hSw
                  go_simp
                  try with_reducible rfl
                try simp only [Act.put, List.setIfInBounds_toArray, List.set_cons_zero, List.set_cons_succ]
                refine wpAnyK_done (by kernel_rfl) ?_ _
                go_wp2_with fail
                go_roundw
                case rel => exact ⟨v8, k + 1, rfl, by omega, by go_num, by show Own _ _ _ _ _ _; rw [HFT.out, HST.out]; simpa [List.flatMap_append] using HO8.out, HB8.out⟩
                case measure => simp [intOf]; omega
              exact AllReadyK.nil
            exact AllReadyK.nil
          exact AllReadyK.nil
        refine AllReadyK.cons (i := 7) rfl (fun K hK => ?_) ?_
        · go_simp
          have HE := Lib.hid ((cell_alloc_lt D (.cells #[.string (B x)] 9) g (off + k) none).trans HE.out)
          have HG := Lib.hid (Nat.lt_of_lt_of_le HG.out (below_alloc (Below.refl D.heap.size D) (.cells #[.string (B x)] 9)).size)
          try have HV := Lib.hid (HV.out.below (below_alloc (Below.refl _ _) (.cells #[.string (B x)] 9)))
          have HB := Lib.hid (below_alloc HB.out (.cells #[.string (B x)] 9))
          have HX := Lib.hid (BoxN.new D (strC x) 9)
          try have hne : D.heap.size ≠ g0 := by have := HN.out.lt g0 rfl; omega
          try have HN := Lib.hid (HN.out.below (below_alloc (Below.refl _ _) (.cells #[.string (B x)] 9)))
          try have HO2 := Lib.hid (HO2.out.below (below_alloc (Below.refl _ _) (.cells #[.string (B x)] 9)))
          unfold strC at HX
          generalize D.heap.size = g7 at *
          generalize D.alloc (.cells #[.string (B x)] 9) = D at *
          haveI : Old D g := ⟨HG.out⟩
          refine hK.out _ _ (fun _ => HE.out) ?_
          clear hK K
          try simp only [Act.put, List.setIfInBounds_toArray, List.set_cons_zero, List.set_cons_succ]
          refine wpAnyK_ready (rs := [0]) (by kernel_rfl) (by simp) ?_
          refine AllReadyK.cons (i := 0) rfl (fun K hK => ?_) ?_
          · go_simp
            have HN : Hid (Own (D.alloc (.cells #[] 9)) w.heap.size 1 (.slice (some ⟨D.heap.size, 0, none⟩) 0 0) 0 []) := Own.none_ _ _ _ _ _ (by simp)
            have HGE := Lib.hid HB.out.size
            have HE := Lib.hid ((cell_alloc_lt D (.cells #[] 9) g (off + k) none).trans HE.out)
            have HG := Lib.hid (Nat.lt_of_lt_of_le HG.out (below_alloc (Below.refl D.heap.size D) (.cells #[] 9)).size)
            have HV := Lib.hid (HV.out.below (below_alloc (Below.refl _ _) (.cells #[] 9)))
            have HB := Lib.hid (below_alloc HB.out (.cells #[] 9))
            try have hne : g7 ≠ D.heap.size := by have := HX.out.lt; omega
            try have HX := Lib.hid (HX.out.below (below_alloc (Below.refl _ _) (.cells #[] 9)))
            generalize D.heap.size = g0 at *
            generalize D.alloc (.cells #[] 9) = D at *
            haveI : Old D g := ⟨HG.out⟩
            refine hK.out _ _ (fun _ => HE.out) ?_
            clear hK K
            try simp only [Act.put, List.setIfInBounds_toArray, List.set_cons_zero, List.set_cons_succ]
            refine wpAnyK_ready (rs := [2]) (by kernel_rfl) (by simp) ?_
            refine AllReadyK.cons (i := 2) rfl (fun K hK => ?_) ?_
            · have hbz := HB.out.size
              (refine step_append_src _ rfl (.tmp 54) (.tmp 55) _ rfl w.heap.size 9 i0 _ 1 16 Tryz.underlying26 hi0 hz00 hz01 hz02 rfl (by decide) _ 0 [] rfl HN.out _ cur.length (cur.flatMap strC) rfl (by rw [strC_flat, Nat.mul_one]) ((HV.out.sl strC_len rfl).src strC_len) strC_one (by unfold maxLen; omega) (by omega) (by first | (simp; done) | omega | (simp; omega)) ?_; intro v3 w3 hown3 hg3 hat3 hty3; have HTY3 := Lib.hid hty3; clear hty3)
              have HE := Lib.hid ((World.cell?_of_block (w := D) (hg3.block g HG.out (fun e => by have h9 : g0 = g := Option.some.inj e.1; have := HGE.out; have := HG1.out; omega))).trans HE.out)
              have HG := Lib.hid (Nat.lt_of_lt_of_le HG.out hg3.size)
              have HB := Lib.hid (below_keeps HB.out hg3 (fun k hk => by have h9 : g0 = k := Option.some.inj hk.1; have := HGE.out; omega))
              try have HX := Lib.hid (HX.out.keeps hg3 (fun hf => hne (Option.some.inj hf.1).symm))
              have HO2 := Lib.hid hown3
              have HAT := Lib.hid (show ∀ k, v3.ownBlock = some k → w1.heap.size ≤ k from fun k hk => by
                rcases hat3 with e | e
                · rw [e] at hk; have h9 : g0 = k := Option.some.inj hk; have := HGE.out; omega
                · have := e k hk; omega)
              clear hown3 hg3 hat3 hbz HV HN
              obtain ⟨D, rfl⟩ : ∃ W, W = w3 := ⟨_, rfl⟩
              haveI : Old D g := ⟨HG.out⟩
              refine hK.out _ _ (fun _ => HE.out) ?_
              clear hK K
              try simp only [Act.put, List.setIfInBounds_toArray, List.set_cons_zero, List.set_cons_succ]
              refine wpAnyK_ready (rs := [8]) (by kernel_rfl) (by simp) ?_
              refine AllReadyK.cons (i := 8) rfl (fun K hK => ?_) ?_
              · have hbz := HB.out.size
                (refine step_append_src _ rfl (.tmp 56) (.tmp 61) _ rfl w.heap.size 9 i0 _ 1 16 Tryz.underlying26 hi0 hz00 hz01 hz02 rfl (by decide) _ (0 + cur.length) ([] ++ cur.flatMap strC) rfl HO2.out _ 1 (strC x) rfl rfl HX.out.src (by simp [strC, Value.oneCell']) (by unfold maxLen; omega) (by omega) (by first | (simp; done) | omega | (simp; omega)) ?_; intro v8 w8 hown8 hg8 hat8 hty8; have HTY8 := Lib.hid hty8; clear hty8)
                have HO8 := Lib.hid hown8
                have HB8 := Lib.hid (below_keeps HB.out hg8 (fun k hk => HAT.out k hk.1))
                clear hown8 hg8 hat8 hbz
                obtain ⟨D, rfl⟩ : ∃ W, W = w8 := ⟨_, rfl⟩
                refine hK.out _ _ (fun h => Bool.noConfusion ((show unl _ _ = false by kernel_rfl).symm.trans h)) ?_
                clear hK K
                try simp only [Act.put, List.setIfInBounds_toArray, List.set_cons_zero, List.set_cons_succ]
                refine wpAnyK_take2 (i := 9) (some 6) (v := ?v9_8z3) rfl rfl (by kernel_rfl) (by kernel_rfl) (by kernel_rfl) (by kernel_rfl) (fun _ _ _ h => h) (Or.inl ⟨by rfl, ?y9_8z3⟩) (fun h => Bool.noConfusion ((show unl _ _ = false by kernel_rfl).symm.trans h)) ?r9_8z3
                case y9_8z3 =>
                  intro w hSw
                  go_simp
                  try with_reducible rfl
                try simp only [Act.put, List.setIfInBounds_toArray, List.set_cons_zero, List.set_cons_succ]
                refine wpAnyK_done (by kernel_rfl) ?_ _
                go_wp2_with fail
                go_roundw
                case rel => exact ⟨v8, k + 1, rfl, by omega, by go_num, by show Own _ _ _ _ _ _; rw [HFT.out, HST.out]; simpa [List.flatMap_append] using HO8.out, HB8.out⟩
                case measure => simp [intOf]; omega
              exact AllReadyK.nil
            exact AllReadyK.nil
          exact AllReadyK.nil
        exact AllReadyK.nil
      · have hk2 : k = ps.length := by omega
        subst hk2
        have d0 := no hlt
        have ho := HV.out
        rw [List.take_length, HNL.out] at ho
        have HN := Lib.hid ho
        have hnl := HFL.out ps (Nat.le_refl _)
        rw [HNL.out] at hnl
        have hjn := hjl
        obtain ⟨A2, c2, rfl, -⟩ := ho.form0
        clear hlt ho HV
        go_wp2_with fail
        go_loopw [8, 9] (fun o i w' => ∃ (j : Nat), j ≤ ns.length ∧ o = .string (B (joinN (ns.take j))) ∧ i = .int .i64 j ∧ wr = w') (fun _ i _ => ns.length - (intOf i).toNat)
        case atStart => exact ⟨0, by omega, rfl, rfl, rfl⟩
        case round =>
          obtain ⟨j, hj, rfl, rfl, rfl⟩ := hrel
          by_cases hlt : j < ns.length
          · obtain ⟨g, off, rfl⟩ : ∃ g off, A2 = some ⟨g, off, none⟩ := by
              obtain ⟨g, off, c', e, -⟩ := HN.out.form' (by omega)
              injection e with e1
              exact ⟨g, off, e1⟩
            obtain ⟨x, hxm⟩ := get_some hlt
            obtain ⟨e0, hg⟩ := own_str HN.out hxm
            haveI : Old wr g := ⟨hg⟩
            have k0 : (0 : Int) ≤ (j : Int) := by omega
            have k1 : (j : Int) < (ns.length : Int) := by omega
            have hjt := joinN_take ns j x hxm
            have hjb := joinN_le ns (j + 1)
            rw [hjt, List.length_append, List.length_cons] at hjb
            have HJT := Lib.hid hjt
            clear hxm hjt
            generalize joinN (ns.take j) = cur at *
            have l1 : ((cur.length : Int) + 1) ≤ 9223372036854775807 := by omega
            have l2 : ((cur.length : Int) + 1 + (x.length : Int)) ≤ 9223372036854775807 := by omega
            go_wp2_with fail
            go_roundw
            case rel => exact ⟨j + 1, by omega, by rw [HJT.out], by go_num, by trivial⟩
            case measure => simp [intOf]; omega
          · have hj2 : j = ns.length := by omega
            subst hj2
            have d1 := no hlt
            rw [List.take_length]
            clear hlt
            have HBF := Lib.hid (below_then HBW.out HB.out)
            by_cases hn : ns = []
            · have HR : Hid (res = [47]) := by show _ = _; rw [HCL.out, if_pos hn]
              have hjz : joinN ns = [] := by rw [hn]; rfl
              rw [hjz]
              go_wp2_with fail
              go_ret
              exact ⟨by rw [HR.out]; rfl, HBF.out⟩
            · have HR : Hid (res = joinN ns) := by show _ = _; rw [HCL.out, if_neg hn]
              have hjz : (joinN ns == []) = false := by rw [beq_eq_false_iff_ne]; exact fun h => hn (joinN_nil h)
              have hjz2 : (joinN ns).isEmpty = false := by rw [List.isEmpty_eq_false_iff]; exact fun h => hn (joinN_nil h)
              generalize joinN ns = jn at *
              go_wp2_with fail
              go_ret
              exact ⟨by rw [HR.out]; rfl, HBF.out⟩
  · rw [hst] at HPT
    have e1 := Pat.not_nb (n := 47) rfl hc
    have e2 := Pat.not_b (n := 47) rfl hc
    simp only [List.length_cons] at ht
    clear hc
    clear hst
    go_enter Tryz.func34, Tryz.ntmps34
    go_wp2_with (go_at_call 28; refine (HPT.out _).mono ?_; rintro e w1 ⟨v1, rfl, ho, hb⟩; have HO := Lib.hid ho; have HBW := Lib.hid hb; obtain ⟨A, cc, rfl, -⟩ := ho.form0; clear ho hb)
    go_loopw [6, 7] (fun o i w' => ∃ (v : Value) (k : Nat), v = o ∧ k ≤ ps.length ∧ i = .int .i64 k ∧ Hid (Own w' w.heap.size 1 v ((ps.take k).foldl step []).length (((ps.take k).foldl step []).flatMap strC)) ∧ Hid (Below w1.heap.size w1 w')) (fun _ i _ => ps.length - (intOf i).toNat)
    case atStart => exact ⟨_, 0, rfl, by omega, rfl, Own.nil _ _ _, Below.refl _ _⟩
    case round =>
      obtain ⟨v, k, rfl, hk, rfl, HV, HB⟩ := hrel
      have hbs := HB.out.size
      have hbs1 := HBW.out.size
      by_cases hlt : k < ps.length
      · obtain ⟨g, off, rfl⟩ : ∃ g off, A = some ⟨g, off, none⟩ := by
          obtain ⟨g, off, c', e, -⟩ := HO.out.form' (by omega)
          injection e with e1
          exact ⟨g, off, e1⟩
        obtain ⟨x, hxm⟩ := get_some hlt
        obtain ⟨e0, hg⟩ := own_str (HO.out.below HB.out) hxm
        have HG1 := Lib.hid (own_str HO.out hxm).2
        haveI : Old wr g := ⟨hg⟩
        have k0 : (0 : Int) ≤ (k : Int) := by omega
        have k1 : (k : Int) < (ps.length : Int) := by omega
        have hnl := HFL.out (ps.take k) (by rw [List.length_take]; omega)
        have hft := fold_take ps k x hxm
        have HFT := Lib.hid hft
        clear hxm hft
        generalize (ps.take k).foldl step [] = cur at *
        by_cases x3 : x = [46, 46]
        · subst x3
          have hstp : step cur [46, 46] = cur.dropLast := by unfold step; rw [if_pos rfl]
          have HST := Lib.hid hstp
          clear hstp
          rcases Nat.eq_zero_or_pos cur.length with z | z
          · have hz := no (show ¬ 0 < cur.length by omega)
            have HC0 := Lib.hid (List.eq_nil_of_length_eq_zero z)
            have hz2 : cur.length = 0 := z
            obtain ⟨A2, c2, rfl, -⟩ := HV.out.form0
            clear z
            go_wp2
            go_roundw
            case rel => exact ⟨_, k + 1, rfl, by omega, by go_num, by show Own _ _ _ _ _ _; rw [HFT.out, HST.out, HC0.out]; have := HV.out; rw [HC0.out] at this; exact this, HB.out⟩
            case measure => simp [intOf]; omega
          · obtain ⟨g2, off2, c2, rfl, f1, f2, f3, f4⟩ := HV.out.form' z
            have hcut := own_cut (m := cur.length - 1) HV.out z (by omega)
            have HCUT : Hid (Own wr w.heap.size 1 (.slice (some ⟨g2, off2, none⟩) (cur.length - 1) c2) (step cur [46, 46]).length ((step cur [46, 46]).flatMap strC)) := by
              show Own _ _ _ _ _ _
              rw [HST.out, List.length_dropLast, List.dropLast_eq_take, str_take]
              exact hcut
            have z1 : (0 : Int) < (cur.length : Int) := by omega
            have z2 : IntKind.i64.wrap ((cur.length : Int) - 1) = (cur.length : Int) - 1 := IntWalk.i64_in _ (by omega)
            have z3 : (0 : Int) ≤ (cur.length : Int) - 1 := by omega
            have z4 : (cur.length : Int) - 1 ≤ (c2 : Int) := by omega
            have z5 : ((cur.length : Int) - 1).toNat = cur.length - 1 := by omega
            clear hcut
            go_wp2
            go_roundw
            case rel => exact ⟨_, k + 1, rfl, by omega, by go_num, by show Own _ _ _ _ _ _; rw [HFT.out]; exact HCUT.out, HB.out⟩
            case measure => simp [intOf]; omega
        have m3 : (x == [46, 46]) = false := by rw [beq_eq_false_iff_ne]; exact x3
        by_cases x1 : x = []
        · subst x1
          have HST := Lib.hid (show step cur [] = cur from rfl)
          clear x3
          go_wp2
          go_roundw
          case rel => exact ⟨v, k + 1, rfl, by omega, by go_num, by show Own _ _ _ _ _ _; rw [HFT.out, HST.out]; exact HV.out, HB.out⟩
          case measure => simp [intOf]; omega
        by_cases x2 : x = [46]
        · subst x2
          have HST := Lib.hid (show step cur [46] = cur from rfl)
          clear x3 x1
          go_wp2
          go_roundw
          case rel => exact ⟨v, k + 1, rfl, by omega, by go_num, by show Own _ _ _ _ _ _; rw [HFT.out, HST.out]; exact HV.out, HB.out⟩
          case measure => simp [intOf]; omega
        have HST := Lib.hid (show step cur x = cur ++ [x] by unfold step; rw [if_neg x3, if_neg (by simp [x1, x2])])
        have m1 : x.isEmpty = false := by simpa using x1
        have m2 : (x == [46]) = false := by rw [beq_eq_false_iff_ne]; exact x2
        clear x3 x1 x2
        go_wp2_with fail
        refine wp_region_keyed (fun W => W.cell? ⟨g, off + k, none⟩ = some (.string (B x))) [8] (by kernel_rfl) ?_
        have HE := Lib.hid (show wr.drew.cell? ⟨g, off + k, none⟩ = some (.string (B x)) from e0)
        have HG := Lib.hid (show g < wr.drew.heap.size from hg)
        have HV := Lib.hid (HV.out.below (below_drew (Below.refl _ _)))
        have HB := Lib.hid (below_drew HB.out)
        clear e0 hg hbs
        generalize wr.drew = D at *
        haveI : Old D g := ⟨HG.out⟩
        refine wpAnyK_take2 (i := 1) (some 55) (v := ?v1_1z4) rfl rfl (by kernel_rfl) (by kernel_rfl) (by kernel_rfl) (by kernel_rfl) (fun _ _ _ h => h) (Or.inl ⟨by rfl, ?y1_1z4⟩) (fun _ => HE.out) ?r1_1z4
        case y1_1z4 =>
          intro w hSw
          go_simp
          try with_reducible rfl
        try simp only [Act.put, List.setIfInBounds_toArray, List.set_cons_zero, List.set_cons_succ]
        refine wpAnyK_take2 (i := 3) (some 57) (v := ?v3_2z4) rfl rfl (by kernel_rfl) (by kernel_rfl) (by kernel_rfl) (by kernel_rfl) (fun _ _ _ h => h) (Or.inl ⟨by rfl, ?y3_2z4⟩) (fun _ => HE.out) ?r3_2z4
        case y3_2z4 =>
          intro w hSw
          go_simp
          try with_reducible rfl
        try simp only [Act.put, List.setIfInBounds_toArray, List.set_cons_zero, List.set_cons_succ]
        refine wpAnyK_take2 (i := 4) (some 58) (v := ?v4_3z4) rfl rfl (by kernel_rfl) (by kernel_rfl) (by kernel_rfl) (by kernel_rfl) (fun _ _ _ h => h) (Or.inl ⟨by rfl, ?y4_3z4⟩) (fun _ => HE.out) ?r4_3z4
        case y4_3z4 =>
          intro w hSw
          go_simp
          try with_reducible rfl
        try simp only [Act.put, List.setIfInBounds_toArray, List.set_cons_zero, List.set_cons_succ]
        refine wpAnyK_take2 (i := 5) (some 59) (v := ?v5_4z4) rfl rfl (by kernel_rfl) (by kernel_rfl) (by kernel_rfl) (by kernel_rfl) (fun _ _ _ h => h) (Or.inl ⟨by rfl, ?y5_4z4⟩) (fun _ => HE.out) ?r5_4z4
        case y5_4z4 =>
          intro w hSw
          go_simp
          try with_reducible rfl
        try simp only [Act.put, List.setIfInBounds_toArray, List.set_cons_zero, List.set_cons_succ]
        refine wpAnyK_load2 (i := 6) [7, 8, 9] (some 60) (v := ?v6_5z4) rfl rfl (by kernel_rfl) (by kernel_rfl) (by kernel_rfl) (by kernel_rfl) (by kernel_rfl) (fun _ _ _ h => h) (Or.inl ⟨by rfl, ?y6_5z4⟩) (fun _ => HE.out) ?r6_5z4
        case y6_5z4 =>
          intro w hSw
          (try dsimp only at hSw)
          go_split_ands
          go_simp
          try with_reducible rfl
        try simp only [Act.put, List.setIfInBounds_toArray, List.set_cons_zero, List.set_cons_succ]
        refine wpAnyK_ready (rs := [0, 7]) (by kernel_rfl) (by simp) ?_
        refine AllReadyK.cons (i := 0) rfl (fun K hK => ?_) ?_
        · go_simp
          have HN : Hid (Own (D.alloc (.cells #[] 9)) w.heap.size 1 (.slice (some ⟨D.heap.size, 0, none⟩) 0 0) 0 []) := Own.none_ _ _ _ _ _ (by simp)
          have HGE := Lib.hid HB.out.size
          have HE := Lib.hid ((cell_alloc_lt D (.cells #[] 9) g (off + k) none).trans HE.out)
          have HG := Lib.hid (Nat.lt_of_lt_of_le HG.out (below_alloc (Below.refl D.heap.size D) (.cells #[] 9)).size)
          have HV := Lib.hid (HV.out.below (below_alloc (Below.refl _ _) (.cells #[] 9)))
          have HB := Lib.hid (below_alloc HB.out (.cells #[] 9))
          try have hne : g7 ≠ D.heap.size := by have := HX.out.lt; omega
          try have HX := Lib.hid (HX.out.below (below_alloc (Below.refl _ _) (.cells #[] 9)))
          generalize D.heap.size = g0 at *
          generalize D.alloc (.cells #[] 9) = D at *
          haveI : Old D g := ⟨HG.out⟩
          refine hK.out _ _ (fun _ => HE.out) ?_
          clear hK K
          try simp only [Act.put, List.setIfInBounds_toArray, List.set_cons_zero, List.set_cons_succ]
          refine wpAnyK_ready (rs := [2, 7]) (by kernel_rfl) (by simp) ?_
          refine AllReadyK.cons (i := 2) rfl (fun K hK => ?_) ?_
          · have hbz := HB.out.size
            (refine step_append_src _ rfl (.tmp 54) (.tmp 55) _ rfl w.heap.size 9 i0 _ 1 16 Tryz.underlying26 hi0 hz00 hz01 hz02 rfl (by decide) _ 0 [] rfl HN.out _ cur.length (cur.flatMap strC) rfl (by rw [strC_flat, Nat.mul_one]) ((HV.out.sl strC_len rfl).src strC_len) strC_one (by unfold maxLen; omega) (by omega) (by first | (simp; done) | omega | (simp; omega)) ?_; intro v3 w3 hown3 hg3 hat3 hty3; have HTY3 := Lib.hid hty3; clear hty3)
            have HE := Lib.hid ((World.cell?_of_block (w := D) (hg3.block g HG.out (fun e => by have h9 : g0 = g := Option.some.inj e.1; have := HGE.out; have := HG1.out; omega))).trans HE.out)
            have HG := Lib.hid (Nat.lt_of_lt_of_le HG.out hg3.size)
            have HB := Lib.hid (below_keeps HB.out hg3 (fun k hk => by have h9 : g0 = k := Option.some.inj hk.1; have := HGE.out; omega))
            try have HX := Lib.hid (HX.out.keeps hg3 (fun hf => hne (Option.some.inj hf.1).symm))
            have HO2 := Lib.hid hown3
            have HAT := Lib.hid (show ∀ k, v3.ownBlock = some k → w1.heap.size ≤ k from fun k hk => by
              rcases hat3 with e | e
              · rw [e] at hk; have h9 : g0 = k := Option.some.inj hk; have := HGE.out; omega
              · have := e k hk; omega)
            clear hown3 hg3 hat3 hbz HV HN
            obtain ⟨D, rfl⟩ : ∃ W, W = w3 := ⟨_, rfl⟩
            haveI : Old D g := ⟨HG.out⟩
            refine hK.out _ _ (fun _ => HE.out) ?_
            clear hK K
            try simp only [Act.put, List.setIfInBounds_toArray, List.set_cons_zero, List.set_cons_succ]
            refine wpAnyK_ready (rs := [7]) (by kernel_rfl) (by simp) ?_
            refine AllReadyK.cons (i := 7) rfl (fun K hK => ?_) ?_
            · go_simp
              have HE := Lib.hid ((cell_alloc_lt D (.cells #[.string (B x)] 9) g (off + k) none).trans HE.out)
              have HG := Lib.hid (Nat.lt_of_lt_of_le HG.out (below_alloc (Below.refl D.heap.size D) (.cells #[.string (B x)] 9)).size)
              try have HV := Lib.hid (HV.out.below (below_alloc (Below.refl _ _) (.cells #[.string (B x)] 9)))
              have HB := Lib.hid (below_alloc HB.out (.cells #[.string (B x)] 9))
              have HX := Lib.hid (BoxN.new D (strC x) 9)
              try have hne : D.heap.size ≠ g0 := by have := HN.out.lt g0 rfl; omega
              try have HN := Lib.hid (HN.out.below (below_alloc (Below.refl _ _) (.cells #[.string (B x)] 9)))
              try have HO2 := Lib.hid (HO2.out.below (below_alloc (Below.refl _ _) (.cells #[.string (B x)] 9)))
              unfold strC at HX
              generalize D.heap.size = g7 at *
              generalize D.alloc (.cells #[.string (B x)] 9) = D at *
              haveI : Old D g := ⟨HG.out⟩
              refine hK.out _ _ (fun _ => HE.out) ?_
              clear hK K
              try simp only [Act.put, List.setIfInBounds_toArray, List.set_cons_zero, List.set_cons_succ]
              refine wpAnyK_ready (rs := [8]) (by kernel_rfl) (by simp) ?_
              refine AllReadyK.cons (i := 8) rfl (fun K hK => ?_) ?_
              · have hbz := HB.out.size
                (refine step_append_src _ rfl (.tmp 56) (.tmp 61) _ rfl w.heap.size 9 i0 _ 1 16 Tryz.underlying26 hi0 hz00 hz01 hz02 rfl (by decide) _ (0 + cur.length) ([] ++ cur.flatMap strC) rfl HO2.out _ 1 (strC x) rfl rfl HX.out.src (by simp [strC, Value.oneCell']) (by unfold maxLen; omega) (by omega) (by first | (simp; done) | omega | (simp; omega)) ?_; intro v8 w8 hown8 hg8 hat8 hty8; have HTY8 := Lib.hid hty8; clear hty8)
                have HO8 := Lib.hid hown8
                have HB8 := Lib.hid (below_keeps HB.out hg8 (fun k hk => HAT.out k hk.1))
                clear hown8 hg8 hat8 hbz
                obtain ⟨D, rfl⟩ : ∃ W, W = w8 := ⟨_, rfl⟩
                refine hK.out _ _ (fun h => Bool.noConfusion ((show unl _ _ = false by kernel_rfl).symm.trans h)) ?_
                clear hK K
                try simp only [Act.put, List.setIfInBounds_toArray, List.set_cons_zero, List.set_cons_succ]
                refine wpAnyK_take2 (i := 9) (some 6) (v := ?v9_6z4) rfl rfl (by kernel_rfl) (by kernel_rfl) (by kernel_rfl) (by kernel_rfl) (fun _ _ _ h => h) (Or.inl ⟨by rfl, ?y9_6z4⟩) (fun h => Bool.noConfusion ((show unl _ _ = false by kernel_rfl).symm.trans h)) ?r9_6z4
                case y9_6z4 =>
                  intro w hSw
                  go_simp
                  try with_reducible rfl
                try simp only [Act.put, List.setIfInBounds_toArray, List.set_cons_zero, List.set_cons_succ]
                refine wpAnyK_done (by kernel_rfl) ?_ _
                go_wp2_with fail
                go_roundw
                case rel => exact ⟨v8, k + 1, rfl, by omega, by go_num, by show Own _ _ _ _ _ _; rw [HFT.out, HST.out]; simpa [List.flatMap_append] using HO8.out, HB8.out⟩
                case measure => simp [intOf]; omega
              exact AllReadyK.nil
            exact AllReadyK.nil
          refine AllReadyK.cons (i := 7) rfl (fun K hK => ?_) ?_
          · go_simp
            have HE := Lib.hid ((cell_alloc_lt D (.cells #[.string (B x)] 9) g (off + k) none).trans HE.out)
            have HG := Lib.hid (Nat.lt_of_lt_of_le HG.out (below_alloc (Below.refl D.heap.size D) (.cells #[.string (B x)] 9)).size)
            try have HV := Lib.hid (HV.out.below (below_alloc (Below.refl _ _) (.cells #[.string (B x)] 9)))
            have HB := Lib.hid (below_alloc HB.out (.cells #[.string (B x)] 9))
            have HX := Lib.hid (BoxN.new D (strC x) 9)
            try have hne : D.heap.size ≠ g0 := by have := HN.out.lt g0 rfl; omega
            try have HN := Lib.hid (HN.out.below (below_alloc (Below.refl _ _) (.cells #[.string (B x)] 9)))
            try have HO2 := Lib.hid (HO2.out.below (below_alloc (Below.refl _ _) (.cells #[.string (B x)] 9)))
            unfold strC at HX
            generalize D.heap.size = g7 at *
            generalize D.alloc (.cells #[.string (B x)] 9) = D at *
            haveI : Old D g := ⟨HG.out⟩
            refine hK.out _ _ (fun _ => HE.out) ?_
            clear hK K
            try simp only [Act.put, List.setIfInBounds_toArray, List.set_cons_zero, List.set_cons_succ]
            refine wpAnyK_ready (rs := [2]) (by kernel_rfl) (by simp) ?_
            refine AllReadyK.cons (i := 2) rfl (fun K hK => ?_) ?_
            · have hbz := HB.out.size
              (refine step_append_src _ rfl (.tmp 54) (.tmp 55) _ rfl w.heap.size 9 i0 _ 1 16 Tryz.underlying26 hi0 hz00 hz01 hz02 rfl (by decide) _ 0 [] rfl HN.out _ cur.length (cur.flatMap strC) rfl (by rw [strC_flat, Nat.mul_one]) ((HV.out.sl strC_len rfl).src strC_len) strC_one (by unfold maxLen; omega) (by omega) (by first | (simp; done) | omega | (simp; omega)) ?_; intro v3 w3 hown3 hg3 hat3 hty3; have HTY3 := Lib.hid hty3; clear hty3)
              have HE := Lib.hid ((World.cell?_of_block (w := D) (hg3.block g HG.out (fun e => by have h9 : g0 = g := Option.some.inj e.1; have := HGE.out; have := HG1.out; omega))).trans HE.out)
              have HG := Lib.hid (Nat.lt_of_lt_of_le HG.out hg3.size)
              have HB := Lib.hid (below_keeps HB.out hg3 (fun k hk => by have h9 : g0 = k := Option.some.inj hk.1; have := HGE.out; omega))
              try have HX := Lib.hid (HX.out.keeps hg3 (fun hf => hne (Option.some.inj hf.1).symm))
              have HO2 := Lib.hid hown3
              have HAT := Lib.hid (show ∀ k, v3.ownBlock = some k → w1.heap.size ≤ k from fun k hk => by
                rcases hat3 with e | e
                · rw [e] at hk; have h9 : g0 = k := Option.some.inj hk; have := HGE.out; omega
                · have := e k hk; omega)
              clear hown3 hg3 hat3 hbz HV HN
              obtain ⟨D, rfl⟩ : ∃ W, W = w3 := ⟨_, rfl⟩
              haveI : Old D g := ⟨HG.out⟩
              refine hK.out _ _ (fun _ => HE.out) ?_
              clear hK K
              try simp only [Act.put, List.setIfInBounds_toArray, List.set_cons_zero, List.set_cons_succ]
              refine wpAnyK_ready (rs := [8]) (by kernel_rfl) (by simp) ?_
              refine AllReadyK.cons (i := 8) rfl (fun K hK => ?_) ?_
              · have hbz := HB.out.size
                (refine step_append_src _ rfl (.tmp 56) (.tmp 61) _ rfl w.heap.size 9 i0 _ 1 16 Tryz.underlying26 hi0 hz00 hz01 hz02 rfl (by decide) _ (0 + cur.length) ([] ++ cur.flatMap strC) rfl HO2.out _ 1 (strC x) rfl rfl HX.out.src (by simp [strC, Value.oneCell']) (by unfold maxLen; omega) (by omega) (by first | (simp; done) | omega | (simp; omega)) ?_; intro v8 w8 hown8 hg8 hat8 hty8; have HTY8 := Lib.hid hty8; clear hty8)
                have HO8 := Lib.hid hown8
                have HB8 := Lib.hid (below_keeps HB.out hg8 (fun k hk => HAT.out k hk.1))
                clear hown8 hg8 hat8 hbz
                obtain ⟨D, rfl⟩ : ∃ W, W = w8 := ⟨_, rfl⟩
                refine hK.out _ _ (fun h => Bool.noConfusion ((show unl _ _ = false by kernel_rfl).symm.trans h)) ?_
                clear hK K
                try simp only [Act.put, List.setIfInBounds_toArray, List.set_cons_zero, List.set_cons_succ]
                refine wpAnyK_take2 (i := 9) (some 6) (v := ?v9_7z4) rfl rfl (by kernel_rfl) (by kernel_rfl) (by kernel_rfl) (by kernel_rfl) (fun _ _ _ h => h) (Or.inl ⟨by rfl, ?y9_7z4⟩) (fun h => Bool.noConfusion ((show unl _ _ = false by kernel_rfl).symm.trans h)) ?r9_7z4
                case y9_7z4 =>
                  intro w hSw
                  go_simp
                  try with_reducible rfl
                try simp only [Act.put, List.setIfInBounds_toArray, List.set_cons_zero, List.set_cons_succ]
                refine wpAnyK_done (by kernel_rfl) ?_ _
                go_wp2_with fail
                go_roundw
                case rel => exact ⟨v8, k + 1, rfl, by omega, by go_num, by show Own _ _ _ _ _ _; rw [HFT.out, HST.out]; simpa [List.flatMap_append] using HO8.out, HB8.out⟩
                case measure => simp [intOf]; omega
              exact AllReadyK.nil
            exact AllReadyK.nil
          exact AllReadyK.nil
        refine AllReadyK.cons (i := 7) rfl (fun K hK => ?_) ?_
        · go_simp
          have HE := Lib.hid ((cell_alloc_lt D (.cells #[.string (B x)] 9) g (off + k) none).trans HE.out)
          have HG := Lib.hid (Nat.lt_of_lt_of_le HG.out (below_alloc (Below.refl D.heap.size D) (.cells #[.string (B x)] 9)).size)
          try have HV := Lib.hid (HV.out.below (below_alloc (Below.refl _ _) (.cells #[.string (B x)] 9)))
          have HB := Lib.hid (below_alloc HB.out (.cells #[.string (B x)] 9))
          have HX := Lib.hid (BoxN.new D (strC x) 9)
          try have hne : D.heap.size ≠ g0 := by have := HN.out.lt g0 rfl; omega
          try have HN := Lib.hid (HN.out.below (below_alloc (Below.refl _ _) (.cells #[.string (B x)] 9)))
          try have HO2 := Lib.hid (HO2.out.below (below_alloc (Below.refl _ _) (.cells #[.string (B x)] 9)))
          unfold strC at HX
          generalize D.heap.size = g7 at *
          generalize D.alloc (.cells #[.string (B x)] 9) = D at *
          haveI : Old D g := ⟨HG.out⟩
          refine hK.out _ _ (fun _ => HE.out) ?_
          clear hK K
          try simp only [Act.put, List.setIfInBounds_toArray, List.set_cons_zero, List.set_cons_succ]
          refine wpAnyK_ready (rs := [0]) (by kernel_rfl) (by simp) ?_
          refine AllReadyK.cons (i := 0) rfl (fun K hK => ?_) ?_
          · go_simp
            have HN : Hid (Own (D.alloc (.cells #[] 9)) w.heap.size 1 (.slice (some ⟨D.heap.size, 0, none⟩) 0 0) 0 []) := Own.none_ _ _ _ _ _ (by simp)
            have HGE := Lib.hid HB.out.size
            have HE := Lib.hid ((cell_alloc_lt D (.cells #[] 9) g (off + k) none).trans HE.out)
            have HG := Lib.hid (Nat.lt_of_lt_of_le HG.out (below_alloc (Below.refl D.heap.size D) (.cells #[] 9)).size)
            have HV := Lib.hid (HV.out.below (below_alloc (Below.refl _ _) (.cells #[] 9)))
            have HB := Lib.hid (below_alloc HB.out (.cells #[] 9))
            try have hne : g7 ≠ D.heap.size := by have := HX.out.lt; omega
            try have HX := Lib.hid (HX.out.below (below_alloc (Below.refl _ _) (.cells #[] 9)))
            generalize D.heap.size = g0 at *
            generalize D.alloc (.cells #[] 9) = D at *
            haveI : Old D g := ⟨HG.out⟩
            refine hK.out _ _ (fun _ => HE.out) ?_
            clear hK K
            try simp only [Act.put, List.setIfInBounds_toArray, List.set_cons_zero, List.set_cons_succ]
            refine wpAnyK_ready (rs := [2]) (by kernel_rfl) (by simp) ?_
            refine AllReadyK.cons (i := 2) rfl (fun K hK => ?_) ?_
            · have hbz := HB.out.size
              (refine step_append_src _ rfl (.tmp 54) (.tmp 55) _ rfl w.heap.size 9 i0 _ 1 16 Tryz.underlying26 hi0 hz00 hz01 hz02 rfl (by decide) _ 0 [] rfl HN.out _ cur.length (cur.flatMap strC) rfl (by rw [strC_flat, Nat.mul_one]) ((HV.out.sl strC_len rfl).src strC_len) strC_one (by unfold maxLen; omega) (by omega) (by first | (simp; done) | omega | (simp; omega)) ?_; intro v3 w3 hown3 hg3 hat3 hty3; have HTY3 := Lib.hid hty3; clear hty3)
              have HE := Lib.hid ((World.cell?_of_block (w := D) (hg3.block g HG.out (fun e => by have h9 : g0 = g := Option.some.inj e.1; have := HGE.out; have := HG1.out; omega))).trans HE.out)
              have HG := Lib.hid (Nat.lt_of_lt_of_le HG.out hg3.size)
              have HB := Lib.hid (below_keeps HB.out hg3 (fun k hk => by have h9 : g0 = k := Option.some.inj hk.1; have := HGE.out; omega))
              try have HX := Lib.hid (HX.out.keeps hg3 (fun hf => hne (Option.some.inj hf.1).symm))
              have HO2 := Lib.hid hown3
              have HAT := Lib.hid (show ∀ k, v3.ownBlock = some k → w1.heap.size ≤ k from fun k hk => by
                rcases hat3 with e | e
                · rw [e] at hk; have h9 : g0 = k := Option.some.inj hk; have := HGE.out; omega
                · have := e k hk; omega)
              clear hown3 hg3 hat3 hbz HV HN
              obtain ⟨D, rfl⟩ : ∃ W, W = w3 := ⟨_, rfl⟩
              haveI : Old D g := ⟨HG.out⟩
              refine hK.out _ _ (fun _ => HE.out) ?_
              clear hK K
              try simp only [Act.put, List.setIfInBounds_toArray, List.set_cons_zero, List.set_cons_succ]
              refine wpAnyK_ready (rs := [8]) (by kernel_rfl) (by simp) ?_
              refine AllReadyK.cons (i := 8) rfl (fun K hK => ?_) ?_
              · have hbz := HB.out.size
                (refine step_append_src _ rfl (.tmp 56) (.tmp 61) _ rfl w.heap.size 9 i0 _ 1 16 Tryz.underlying26 hi0 hz00 hz01 hz02 rfl (by decide) _ (0 + cur.length) ([] ++ cur.flatMap strC) rfl HO2.out _ 1 (strC x) rfl rfl HX.out.src (by simp [strC, Value.oneCell']) (by unfold maxLen; omega) (by omega) (by first | (simp; done) | omega | (simp; omega)) ?_; intro v8 w8 hown8 hg8 hat8 hty8; have HTY8 := Lib.hid hty8; clear hty8)
                have HO8 := Lib.hid hown8
                have HB8 := Lib.hid (below_keeps HB.out hg8 (fun k hk => HAT.out k hk.1))
                clear hown8 hg8 hat8 hbz
                obtain ⟨D, rfl⟩ : ∃ W, W = w8 := ⟨_, rfl⟩
                refine hK.out _ _ (fun h => Bool.noConfusion ((show unl _ _ = false by kernel_rfl).symm.trans h)) ?_
                clear hK K
                try simp only [Act.put, List.setIfInBounds_toArray, List.set_cons_zero, List.set_cons_succ]
                refine wpAnyK_take2 (i := 9) (some 6) (v := ?v9_8z4) rfl rfl (by kernel_rfl) (by kernel_rfl) (by kernel_rfl) (by kernel_rfl) (fun _ _ _ h => h) (Or.inl ⟨by rfl, ?y9_8z4⟩) (fun h => Bool.noConfusion ((show unl _ _ = false by kernel_rfl).symm.trans h)) ?r9_8z4
                case y9_8z4 =>
                  intro w hSw
                  go_simp
                  try with_reducible rfl
                try simp only [Act.put, List.setIfInBounds_toArray, List.set_cons_zero, List.set_cons_succ]
                refine wpAnyK_done (by kernel_rfl) ?_ _
                go_wp2_with fail
                go_roundw
                case rel => exact ⟨v8, k + 1, rfl, by omega, by go_num, by show Own _ _ _ _ _ _; rw [HFT.out, HST.out]; simpa [List.flatMap_append] using HO8.out, HB8.out⟩
                case measure => simp [intOf]; omega
              exact AllReadyK.nil
            exact AllReadyK.nil
          exact AllReadyK.nil
        exact AllReadyK.nil
      · have hk2 : k = ps.length := by omega
        subst hk2
        have d0 := no hlt
        have ho := HV.out
        rw [List.take_length, HNL.out] at ho
        have HN := Lib.hid ho
        have hnl := HFL.out ps (Nat.le_refl _)
        rw [HNL.out] at hnl
        have hjn := hjl
        obtain ⟨A2, c2, rfl, -⟩ := ho.form0
        clear hlt ho HV
        go_wp2_with fail
        go_loopw [8, 9] (fun o i w' => ∃ (j : Nat), j ≤ ns.length ∧ o = .string (B (joinN (ns.take j))) ∧ i = .int .i64 j ∧ wr = w') (fun _ i _ => ns.length - (intOf i).toNat)
        case atStart => exact ⟨0, by omega, rfl, rfl, rfl⟩
        case round =>
          obtain ⟨j, hj, rfl, rfl, rfl⟩ := hrel
          by_cases hlt : j < ns.length
          · obtain ⟨g, off, rfl⟩ : ∃ g off, A2 = some ⟨g, off, none⟩ := by
              obtain ⟨g, off, c', e, -⟩ := HN.out.form' (by omega)
              injection e with e1
              exact ⟨g, off, e1⟩
            obtain ⟨x, hxm⟩ := get_some hlt
            obtain ⟨e0, hg⟩ := own_str HN.out hxm
            haveI : Old wr g := ⟨hg⟩
            have k0 : (0 : Int) ≤ (j : Int) := by omega
            have k1 : (j : Int) < (ns.length : Int) := by omega
            have hjt := joinN_take ns j x hxm
            have hjb := joinN_le ns (j + 1)
            rw [hjt, List.length_append, List.length_cons] at hjb
            have HJT := Lib.hid hjt
            clear hxm hjt
            generalize joinN (ns.take j) = cur at *
            have l1 : ((cur.length : Int) + 1) ≤ 9223372036854775807 := by omega
            have l2 : ((cur.length : Int) + 1 + (x.length : Int)) ≤ 9223372036854775807 := by omega
            go_wp2_with fail
            go_roundw
            case rel => exact ⟨j + 1, by omega, by rw [HJT.out], by go_num, by trivial⟩
            case measure => simp [intOf]; omega
          · have hj2 : j = ns.length := by omega
            subst hj2
            have d1 := no hlt
            rw [List.take_length]
            clear hlt
            have HBF := Lib.hid (below_then HBW.out HB.out)
            by_cases hn : ns = []
            · have HR : Hid (res = [47]) := by show _ = _; rw [HCL.out, if_pos hn]
              have hjz : joinN ns = [] := by rw [hn]; rfl
              rw [hjz]
              go_wp2_with fail
              go_ret
              exact ⟨by rw [HR.out]; rfl, HBF.out⟩
            · have HR : Hid (res = joinN ns) := by show _ = _; rw [HCL.out, if_neg hn]
              have hjz : (joinN ns == []) = false := by rw [beq_eq_false_iff_ne]; exact fun h => hn (joinN_nil h)
              have hjz2 : (joinN ns).isEmpty = false := by rw [List.isEmpty_eq_false_iff]; exact fun h => hn (joinN_nil h)
              generalize joinN ns = jn at *
              go_wp2_with fail
              go_ret
              exact ⟨by rw [HR.out]; rfl, HBF.out⟩
end Go.Proofs.YtnecmpgcjgkheaaGreat.Fil
