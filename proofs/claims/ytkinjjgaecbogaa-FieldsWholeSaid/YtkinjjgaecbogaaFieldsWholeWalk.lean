/-
  The walk of the law FieldsWhole: it returns true, whatever its arguments. Conditions: none (arguments as the row reads them). Printed by gen_whole.py.
-/
import Derived.Test.YtkinjjgaecbogaaFields8
import Derived.Test.YtkinjjgaecbogaaFieldsWholePlain
namespace Go.Proofs.Ytkinjjgaecbogaa.fieldsWhole
open Go.ChangeShapes Go.WideShapes Go.Deep Go.ChangeAt Go.RowKit
set_option maxRecDepth 100000
set_option linter.unusedSimpArgs false
theorem info_piece : (Try.prog.info? 51).map (fun i => (i.zero, i.size, i.bytes)) = some (some (.agg #[.bool false, .bool false, .string ByteArray.empty]), 3, 24) := by kernel_rfl
theorem piece_flat (xs : List Piece) : (xs.flatMap fun p => (quo p).cells) = (xs.map quo).flatMap Piece.cells := by simp [List.flatMap_map]
set_option maxHeartbeats 4000000 in
theorem walk {H : Type} (enc : TypeId × Value → H) (w : World) (base : Nat) {v0 v1 : Value} {d0 d1 : DataW H} {p0 p1 : List MemPlace}
    (h0 : DataW.Trod enc Try.prog w 0 (fun _ => true) true 44 v0 d0 p0) (k0 : Value.okWide Try.prog w .any base 44 v0)
    (h1 : DataW.Trod enc Try.prog w 0 (fun _ => true) true 9 v1 d1 p1) (k1 : Value.okWide Try.prog w .any base 9 v1) :
    Calls Try.prog 7 #[v0, v1] w fun e w' => e = .returned (.bool true) ∧ Below w.heap.size w w' := by
  obtain ⟨l, hv, hok, hl⟩ := open_sl Piece.cells Piece.Ok Try.underlying44 piece_cells (by omega) piece_dec h0 k0
  obtain ⟨sp, rfl, hsp⟩ := open_text h1 k1
  clear h0 k0 h1 k1 hok
  obtain ⟨i3, hi3, hz30, hz31, hz32⟩ := info_parts info_piece
  have HV := Lib.hid hv
  have HF := Lib.hid fun (g : GrowOf w) => few26_any l v0 (grow w g) (hv.below g.2)
  obtain ⟨A, c, rfl, hc1, hc2, hn, hA⟩ := hv
  have HA := Lib.hid hA
  clear hA hn
  by_cases hfew : fewP l = false
  · have HF' := Lib.hid fun (g : GrowOf w) => show Calls Try.prog 29 #[.slice A l.length c] (grow w g) fun e w' => e = .returned (.bool false) ∧ Below (grow w g).heap.size (grow w g) w' from (HF.out g).mono fun e w' h => ⟨by rw [h.1, hfew], h.2⟩
    clear HF hfew
    go_enter Try.func7, Try.ntmps7
    go_wp2_with (first | (go_at_call 28; refine (awake26_any _).mono ?_; rintro e w' ⟨rfl, hb⟩; obtain ⟨g, rfl⟩ := to_grow hb; clear hb) | (go_at_call 29; refine (HF'.out _).mono ?_; rintro e w' ⟨rfl, hb⟩; obtain ⟨g, rfl⟩ := to_grow hb; clear hb))
    go_ret
    exact ⟨rfl, by (repeat (first | exact Below.refl _ _ | assumption | with_reducible refine below_alloc ?_ _ | with_reducible refine below_grow ?_ _ | with_reducible refine below_drewN ?_ _ | with_reducible refine below_drew ?_ | with_reducible refine below_setCell ?_ (by first | (dsimp only; omega) | (simp; done) | (simp; omega)) _))⟩
  have hfew' : fewP l = true := by simpa using hfew
  have HF' := Lib.hid fun (g : GrowOf w) => show Calls Try.prog 29 #[.slice A l.length c] (grow w g) fun e w' => e = .returned (.bool true) ∧ Below (grow w g).heap.size (grow w g) w' from (HF.out g).mono fun e w' h => ⟨by rw [h.1, hfew'], h.2⟩
  obtain ⟨hl12, hpl⟩ := fewP_yes hfew'
  have HPL := Lib.hid hpl
  clear HF hfew hfew' hpl
  by_cases l1 : 40 < sp.length
  · go_enter Try.func7, Try.ntmps7
    go_wp2_with (first | (go_at_call 28; refine (awake26_any _).mono ?_; rintro e w' ⟨rfl, hb⟩; obtain ⟨g, rfl⟩ := to_grow hb; clear hb) | (go_at_call 29; refine (HF'.out _).mono ?_; rintro e w' ⟨rfl, hb⟩; obtain ⟨g, rfl⟩ := to_grow hb; clear hb))
    go_ret
    exact ⟨rfl, by (repeat (first | exact Below.refl _ _ | assumption | with_reducible refine below_alloc ?_ _ | with_reducible refine below_grow ?_ _ | with_reducible refine below_drewN ?_ _ | with_reducible refine below_drew ?_ | with_reducible refine below_setCell ?_ (by first | (dsimp only; omega) | (simp; done) | (simp; omega)) _))⟩
  have l1' := no (show ¬ (40 : Int) < (sp.length : Int) by omega)
  clear l1
  go_enter Try.func7, Try.ntmps7
  go_wp2_with (first | (go_at_call 28; refine (awake26_any _).mono ?_; rintro e w' ⟨rfl, hb⟩; obtain ⟨g, rfl⟩ := to_grow hb; clear hb) | (go_at_call 29; refine (HF'.out _).mono ?_; rintro e w' ⟨rfl, hb⟩; obtain ⟨g, rfl⟩ := to_grow hb; clear hb))
  clear l1'
  go_loopw [5, 6, 7, 8] (fun t s q i wr => ∃ (k : Nat) (A1 : Option Addr) (c1 : Nat), k ≤ l.length ∧ i = .int .i64 k ∧ t = .string (B (textOf (l.take k))) ∧ s = .bool (someB (l.take k)) ∧ q = .slice A1 k c1 ∧ Hid (Own wr w.heap.size 3 (.slice A1 k c1) k ((l.take k).flatMap fun p => (quo p).cells)) ∧ Hid (Below w.heap.size w wr)) (fun _ _ _ i _ => l.length - (intOf i).toNat)
  case atStart => exact ⟨0, none, 0, by omega, rfl, rfl, rfl, rfl, Own.nil _ _ _, by show Below _ _ _; (repeat (first | exact Below.refl _ _ | assumption | with_reducible refine below_alloc ?_ _ | with_reducible refine below_grow ?_ _ | with_reducible refine below_drewN ?_ _ | with_reducible refine below_drew ?_ | with_reducible refine below_setCell ?_ (by first | (dsimp only; omega) | (simp; done) | (simp; omega)) _))⟩
  case round =>
    obtain ⟨k, A1, c1, hk, rfl, rfl, rfl, rfl, HO, HB⟩ := hrel
    have htl := textOf_len (l.take k) (fun p hp => HPL.out p (List.mem_of_mem_take hp))
    rw [List.length_take] at htl
    have htl2 : (textOf (l.take k)).length ≤ 480 := by omega
    clear htl
    by_cases hlt : k < l.length
    · obtain ⟨b, off, rfl, hb, hc⟩ := HA.out (by omega)
      have e0 : wr.cell? ⟨b, off + k * 3, none⟩ = some (.bool l[k].ex) := (HB.out.cell (p := ⟨b, _, none⟩) hb).trans (hc k _ (List.getElem?_eq_getElem hlt) 0 _ rfl)
      have e1 : wr.cell? ⟨b, off + k * 3 + 1, none⟩ = some (.bool l[k].q) := (HB.out.cell (p := ⟨b, _, none⟩) hb).trans (hc k _ (List.getElem?_eq_getElem hlt) 1 _ rfl)
      have e2 : wr.cell? ⟨b, off + k * 3 + 2, none⟩ = some (.string (B l[k].text)) := (HB.out.cell (p := ⟨b, _, none⟩) hb).trans (hc k _ (List.getElem?_eq_getElem hlt) 2 _ rfl)
      clear hc
      have HT := Lib.hid (show l.take (k + 1) = l.take k ++ [l[k]] by rw [List.take_succ_eq_append_getElem hlt])
      have hxl := HPL.out l[k] (List.getElem_mem hlt)
      have hi0 : (0 : Int) ≤ (k : Int) := by omega
      have hi1 : (k : Int) < (l.length : Int) := by omega
      have hb2 : b < wr.heap.size := Nat.lt_of_lt_of_le hb HB.out.size
      generalize l[k] = x at *
      have HT1 := Lib.hid (show textOf (l.take (k + 1)) = textOf (l.take k) ++ x.text by rw [HT.out, textOf_snoc])
      have HT2 := Lib.hid (show someB (l.take (k + 1)) = (someB (l.take k) || x.q || decide (0 < x.text.length)) by rw [HT.out, someB_snoc])
      have HT3 := Lib.hid (show ((l.take (k + 1)).flatMap fun p => (quo p).cells) = ((l.take k).flatMap fun p => (quo p).cells) ++ [.bool x.ex, .bool true, .string (B x.text)] by rw [HT.out, List.flatMap_append]; rfl)
      have f0 := e0
      have f2 := e2
      clear HT
      generalize textOf (l.take k) = t at *
      generalize someB (l.take k) = s at *
      obtain ⟨yq, hyq⟩ : ∃ yq, yq = x.q := ⟨_, rfl⟩
      rw [← hyq] at e1 HT2
      clear hyq
      cases s with
      | true =>
        simp only [Bool.true_or] at HT2
        go_wp2
        refine wp_region_keyed (fun W => W.cell? ⟨b, off + k * 3, none⟩ = some (.bool x.ex) ∧ W.cell? ⟨b, off + k * 3 + 2, none⟩ = some (.string (B x.text))) [] (by kernel_rfl) ?_
        obtain ⟨D, hD⟩ : ∃ D, D = wr.drew := ⟨_, rfl⟩
        have HC : Hid (D.cell? ⟨b, off + k * 3, none⟩ = some (.bool x.ex) ∧ D.cell? ⟨b, off + k * 3 + 2, none⟩ = some (.string (B x.text))) := by rw [hD]; exact ⟨f0, f2⟩
        have HO : Hid (Own D w.heap.size 3 (.slice A1 k c1) k ((l.take k).flatMap fun p => (quo p).cells)) := by rw [hD]; exact HO.out.below (below_drew (Below.refl _ _))
        have HB : Hid (Below w.heap.size w D) := by rw [hD]; exact below_drew HB.out
        have hbD : b < D.heap.size := by rw [hD]; exact hb2
        have hwD : w.heap.size ≤ D.heap.size := HB.out.size
        rw [← hD]
        clear hD f0 f2
        refine wpAnyK_take (i := 0) (v := ?v0_1a) rfl (by kernel_rfl) (by kernel_rfl) (by kernel_rfl) (by kernel_rfl) (fun _ _ _ h => h) (Or.inl ⟨by rfl, ?y0_1a⟩) (fun _ => HC.out) ?r0_1a
        case y0_1a =>
          intro w hSw
          go_simp
          try with_reducible rfl
        try simp only [Act.put, List.setIfInBounds_toArray, List.set_cons_zero, List.set_cons_succ]
        refine wpAnyK_take (i := 1) (v := ?v1_2a) rfl (by kernel_rfl) (by kernel_rfl) (by kernel_rfl) (by kernel_rfl) (fun _ _ _ h => h) (Or.inl ⟨by rfl, ?y1_2a⟩) (fun _ => HC.out) ?r1_2a
        case y1_2a =>
          intro w hSw
          go_simp
          try with_reducible rfl
        try simp only [Act.put, List.setIfInBounds_toArray, List.set_cons_zero, List.set_cons_succ]
        refine wpAnyK_take (i := 2) (v := ?v2_3a) rfl (by kernel_rfl) (by kernel_rfl) (by kernel_rfl) (by kernel_rfl) (fun _ _ _ h => h) (Or.inl ⟨by rfl, ?y2_3a⟩) (fun _ => HC.out) ?r2_3a
        case y2_3a =>
          intro w hSw
          go_simp
          try with_reducible rfl
        try simp only [Act.put, List.setIfInBounds_toArray, List.set_cons_zero, List.set_cons_succ]
        refine wpAnyK_take (i := 3) (v := ?v3_4a) rfl (by kernel_rfl) (by kernel_rfl) (by kernel_rfl) (by kernel_rfl) (fun _ _ _ h => h) (Or.inl ⟨by rfl, ?y3_4a⟩) (fun _ => HC.out) ?r3_4a
        case y3_4a =>
          intro w hSw
          go_simp
          try with_reducible rfl
        try simp only [Act.put, List.setIfInBounds_toArray, List.set_cons_zero, List.set_cons_succ]
        refine wpAnyK_take (i := 4) (v := ?v4_5a) rfl (by kernel_rfl) (by kernel_rfl) (by kernel_rfl) (by kernel_rfl) (fun _ _ _ h => h) (Or.inl ⟨by rfl, ?y4_5a⟩) (fun _ => HC.out) ?r4_5a
        case y4_5a =>
          intro w hSw
          go_simp
          try with_reducible rfl
        try simp only [Act.put, List.setIfInBounds_toArray, List.set_cons_zero, List.set_cons_succ]
        refine wpAnyK_load (i := 5) [11, 12, 13, 14] (v := ?v5_6a) rfl (by kernel_rfl) (by kernel_rfl) (by kernel_rfl) (by kernel_rfl) (by kernel_rfl) (fun _ _ _ h => h) (Or.inl ⟨by rfl, ?y5_6a⟩) (fun _ => HC.out) ?r5_6a
        case y5_6a =>
          intro w hSw
          (try dsimp only at hSw)
          go_split_ands
          go_simp
          try with_reducible rfl
        try simp only [Act.put, List.setIfInBounds_toArray, List.set_cons_zero, List.set_cons_succ]
        refine wpAnyK_take (i := 6) (v := ?v6_7a) rfl (by kernel_rfl) (by kernel_rfl) (by kernel_rfl) (by kernel_rfl) (fun _ _ _ h => h) (Or.inl ⟨by rfl, ?y6_7a⟩) (fun _ => HC.out) ?r6_7a
        case y6_7a =>
          intro w hSw
          go_simp
          try with_reducible rfl
        try simp only [Act.put, List.setIfInBounds_toArray, List.set_cons_zero, List.set_cons_succ]
        refine wpAnyK_take (i := 7) (v := ?v7_8a) rfl (by kernel_rfl) (by kernel_rfl) (by kernel_rfl) (by kernel_rfl) (fun _ _ _ h => h) (Or.inl ⟨by rfl, ?y7_8a⟩) (fun _ => HC.out) ?r7_8a
        case y7_8a =>
          intro w hSw
          go_simp
          try with_reducible rfl
        try simp only [Act.put, List.setIfInBounds_toArray, List.set_cons_zero, List.set_cons_succ]
        refine wpAnyK_take (i := 8) (v := ?v8_9a) rfl (by kernel_rfl) (by kernel_rfl) (by kernel_rfl) (by kernel_rfl) (fun _ _ _ h => h) (Or.inl ⟨by rfl, ?y8_9a⟩) (fun _ => HC.out) ?r8_9a
        case y8_9a =>
          intro w hSw
          go_simp
          try with_reducible rfl
        try simp only [Act.put, List.setIfInBounds_toArray, List.set_cons_zero, List.set_cons_succ]
        refine wpAnyK_take (i := 9) (v := ?v9_10a) rfl (by kernel_rfl) (by kernel_rfl) (by kernel_rfl) (by kernel_rfl) (fun _ _ _ h => h) (Or.inl ⟨by rfl, ?y9_10a⟩) (fun _ => HC.out) ?r9_10a
        case y9_10a =>
          intro w hSw
          go_simp
          try with_reducible rfl
        try simp only [Act.put, List.setIfInBounds_toArray, List.set_cons_zero, List.set_cons_succ]
        refine wpAnyK_load (i := 10) [11, 12, 13, 14] (v := ?v10_11a) rfl (by kernel_rfl) (by kernel_rfl) (by kernel_rfl) (by kernel_rfl) (by kernel_rfl) (fun _ _ _ h => h) (Or.inl ⟨by rfl, ?y10_11a⟩) (fun _ => HC.out) ?r10_11a
        case y10_11a =>
          intro w hSw
          (try dsimp only at hSw)
          go_split_ands
          go_simp
          try with_reducible rfl
        try simp only [Act.put, List.setIfInBounds_toArray, List.set_cons_zero, List.set_cons_succ]
        refine wpAnyK_take (i := 11) (v := ?v11_12a) rfl (by kernel_rfl) (by kernel_rfl) (by kernel_rfl) (by kernel_rfl) (fun _ _ _ h => h) (Or.inl ⟨by rfl, ?y11_12a⟩) (fun _ => HC.out) ?r11_12a
        case y11_12a =>
          intro w hSw
          go_simp
          try with_reducible rfl
        try simp only [Act.put, List.setIfInBounds_toArray, List.set_cons_zero, List.set_cons_succ]
        refine wpAnyK_ready (rs := [12]) (by kernel_rfl) (by simp) ?_
        refine AllReadyK.cons (i := 12) rfl (fun K hK => ?_) ?_
        · haveI : Old D b := ⟨hbD⟩
          go_simp
          have HC : Hid ((D.alloc (.cells #[.bool x.ex, .bool true, .string (B x.text)] 51)).cell? ⟨b, off + k * 3, none⟩ = some (.bool x.ex) ∧ (D.alloc (.cells #[.bool x.ex, .bool true, .string (B x.text)] 51)).cell? ⟨b, off + k * 3 + 2, none⟩ = some (.string (B x.text))) := by
            have h := HC.out
            exact ⟨by go_simp, by go_simp⟩
          refine hK.out _ _ (fun _ => HC.out) ?_
          clear hK K
          try simp only [Act.put, List.setIfInBounds_toArray, List.set_cons_zero, List.set_cons_succ]
          refine wpAnyK_ready (rs := [13]) (by kernel_rfl) (by simp) ?_
          refine AllReadyK.cons (i := 13) rfl (fun K hK => ?_) ?_
          · (refine step_append_src _ rfl (.tmp 51) (.tmp 63) _ rfl w.heap.size 51 i3 _ 3 24 Try.underlying44 hi3 hz30 hz31 hz32 rfl (by decide) _ k ((l.take k).flatMap fun p => (quo p).cells) rfl (HO.out.below (below_alloc (Below.refl _ _) _)) _ 1 [.bool x.ex, .bool true, .string (B x.text)] rfl rfl (by refine src_one _ _ _ _ _ ?_; first | rfl | (simp; done) | omega | (simp; omega)) (by simp [Value.oneCell']) (by unfold maxLen; omega) (by omega) (by first | (simp; done) | omega | (simp; omega)) ?_; intro v13 w13 hown13 hg13 hat13 hty13; have HTY13 := Lib.hid hty13; clear hty13)
            have HC : Hid (w13.cell? ⟨b, off + k * 3, none⟩ = some (.bool x.ex) ∧ w13.cell? ⟨b, off + k * 3 + 2, none⟩ = some (.string (B x.text))) := by
              have hk13 := hg13.block b (by simp; omega) (fun hf => by have := hf.2; omega)
              exact ⟨(World.cell?_of_block hk13).trans HC.out.1, (World.cell?_of_block hk13).trans HC.out.2⟩
            obtain ⟨g13, o13, c13, rfl, -, -, -, -⟩ := hown13.form
            refine hK.out _ _ (fun _ => HC.out) ?_
            clear hK K
            try simp only [Act.put, List.setIfInBounds_toArray, List.set_cons_zero, List.set_cons_succ]
            refine wpAnyK_take (i := 14) (v := ?v14_13a) rfl (by kernel_rfl) (by kernel_rfl) (by kernel_rfl) (by kernel_rfl) (fun _ _ _ h => h) (Or.inl ⟨by rfl, ?y14_13a⟩) (fun _ => HC.out) ?r14_13a
            case y14_13a =>
              intro w hSw
              go_simp
              try with_reducible rfl
            try simp only [Act.put, List.setIfInBounds_toArray, List.set_cons_zero, List.set_cons_succ]
            refine wpAnyK_done (by kernel_rfl) ?_ _
            try simp only [Act.put, List.setIfInBounds_toArray, List.set_cons_zero, List.set_cons_succ]
            have hB13 : Below w.heap.size w w13 := below_keeps (below_alloc HB.out _) hg13 (fun k hk => hk.2)
            have HB13 := Lib.hid hB13
            have HO13 := Lib.hid hown13
            clear hB13 hown13 hg13 hat13
            go_wp2
            go_roundw
            case rel => exact ⟨k + 1, some ⟨g13, o13, none⟩, c13, by omega, by go_num, by rw [HT1.out], by first | (rw [HT2.out]; done) | rw [HT2.out, decide_eq_false HoN.out], rfl, by show Own _ _ _ _ _ _; rw [HT3.out]; exact HO13.out, HB13.out⟩
            case measure => simp [intOf]; omega
          exact AllReadyK.nil
        exact AllReadyK.nil
      | false =>
        cases yq with
        | true =>
          simp only [Bool.false_or, Bool.true_or] at HT2
          go_wp2
          refine wp_region_keyed (fun W => W.cell? ⟨b, off + k * 3, none⟩ = some (.bool x.ex) ∧ W.cell? ⟨b, off + k * 3 + 2, none⟩ = some (.string (B x.text))) [] (by kernel_rfl) ?_
          obtain ⟨D, hD⟩ : ∃ D, D = wr.drew := ⟨_, rfl⟩
          have HC : Hid (D.cell? ⟨b, off + k * 3, none⟩ = some (.bool x.ex) ∧ D.cell? ⟨b, off + k * 3 + 2, none⟩ = some (.string (B x.text))) := by rw [hD]; exact ⟨f0, f2⟩
          have HO : Hid (Own D w.heap.size 3 (.slice A1 k c1) k ((l.take k).flatMap fun p => (quo p).cells)) := by rw [hD]; exact HO.out.below (below_drew (Below.refl _ _))
          have HB : Hid (Below w.heap.size w D) := by rw [hD]; exact below_drew HB.out
          have hbD : b < D.heap.size := by rw [hD]; exact hb2
          have hwD : w.heap.size ≤ D.heap.size := HB.out.size
          rw [← hD]
          clear hD f0 f2
          refine wpAnyK_take (i := 0) (v := ?v0_1b) rfl (by kernel_rfl) (by kernel_rfl) (by kernel_rfl) (by kernel_rfl) (fun _ _ _ h => h) (Or.inl ⟨by rfl, ?y0_1b⟩) (fun _ => HC.out) ?r0_1b
          case y0_1b =>
            intro w hSw
            go_simp
            try with_reducible rfl
          try simp only [Act.put, List.setIfInBounds_toArray, List.set_cons_zero, List.set_cons_succ]
          refine wpAnyK_take (i := 1) (v := ?v1_2b) rfl (by kernel_rfl) (by kernel_rfl) (by kernel_rfl) (by kernel_rfl) (fun _ _ _ h => h) (Or.inl ⟨by rfl, ?y1_2b⟩) (fun _ => HC.out) ?r1_2b
          case y1_2b =>
            intro w hSw
            go_simp
            try with_reducible rfl
          try simp only [Act.put, List.setIfInBounds_toArray, List.set_cons_zero, List.set_cons_succ]
          refine wpAnyK_take (i := 2) (v := ?v2_3b) rfl (by kernel_rfl) (by kernel_rfl) (by kernel_rfl) (by kernel_rfl) (fun _ _ _ h => h) (Or.inl ⟨by rfl, ?y2_3b⟩) (fun _ => HC.out) ?r2_3b
          case y2_3b =>
            intro w hSw
            go_simp
            try with_reducible rfl
          try simp only [Act.put, List.setIfInBounds_toArray, List.set_cons_zero, List.set_cons_succ]
          refine wpAnyK_take (i := 3) (v := ?v3_4b) rfl (by kernel_rfl) (by kernel_rfl) (by kernel_rfl) (by kernel_rfl) (fun _ _ _ h => h) (Or.inl ⟨by rfl, ?y3_4b⟩) (fun _ => HC.out) ?r3_4b
          case y3_4b =>
            intro w hSw
            go_simp
            try with_reducible rfl
          try simp only [Act.put, List.setIfInBounds_toArray, List.set_cons_zero, List.set_cons_succ]
          refine wpAnyK_take (i := 4) (v := ?v4_5b) rfl (by kernel_rfl) (by kernel_rfl) (by kernel_rfl) (by kernel_rfl) (fun _ _ _ h => h) (Or.inl ⟨by rfl, ?y4_5b⟩) (fun _ => HC.out) ?r4_5b
          case y4_5b =>
            intro w hSw
            go_simp
            try with_reducible rfl
          try simp only [Act.put, List.setIfInBounds_toArray, List.set_cons_zero, List.set_cons_succ]
          refine wpAnyK_load (i := 5) [11, 12, 13, 14] (v := ?v5_6b) rfl (by kernel_rfl) (by kernel_rfl) (by kernel_rfl) (by kernel_rfl) (by kernel_rfl) (fun _ _ _ h => h) (Or.inl ⟨by rfl, ?y5_6b⟩) (fun _ => HC.out) ?r5_6b
          case y5_6b =>
            intro w hSw
            (try dsimp only at hSw)
            go_split_ands
            go_simp
            try with_reducible rfl
          try simp only [Act.put, List.setIfInBounds_toArray, List.set_cons_zero, List.set_cons_succ]
          refine wpAnyK_take (i := 6) (v := ?v6_7b) rfl (by kernel_rfl) (by kernel_rfl) (by kernel_rfl) (by kernel_rfl) (fun _ _ _ h => h) (Or.inl ⟨by rfl, ?y6_7b⟩) (fun _ => HC.out) ?r6_7b
          case y6_7b =>
            intro w hSw
            go_simp
            try with_reducible rfl
          try simp only [Act.put, List.setIfInBounds_toArray, List.set_cons_zero, List.set_cons_succ]
          refine wpAnyK_take (i := 7) (v := ?v7_8b) rfl (by kernel_rfl) (by kernel_rfl) (by kernel_rfl) (by kernel_rfl) (fun _ _ _ h => h) (Or.inl ⟨by rfl, ?y7_8b⟩) (fun _ => HC.out) ?r7_8b
          case y7_8b =>
            intro w hSw
            go_simp
            try with_reducible rfl
          try simp only [Act.put, List.setIfInBounds_toArray, List.set_cons_zero, List.set_cons_succ]
          refine wpAnyK_take (i := 8) (v := ?v8_9b) rfl (by kernel_rfl) (by kernel_rfl) (by kernel_rfl) (by kernel_rfl) (fun _ _ _ h => h) (Or.inl ⟨by rfl, ?y8_9b⟩) (fun _ => HC.out) ?r8_9b
          case y8_9b =>
            intro w hSw
            go_simp
            try with_reducible rfl
          try simp only [Act.put, List.setIfInBounds_toArray, List.set_cons_zero, List.set_cons_succ]
          refine wpAnyK_take (i := 9) (v := ?v9_10b) rfl (by kernel_rfl) (by kernel_rfl) (by kernel_rfl) (by kernel_rfl) (fun _ _ _ h => h) (Or.inl ⟨by rfl, ?y9_10b⟩) (fun _ => HC.out) ?r9_10b
          case y9_10b =>
            intro w hSw
            go_simp
            try with_reducible rfl
          try simp only [Act.put, List.setIfInBounds_toArray, List.set_cons_zero, List.set_cons_succ]
          refine wpAnyK_load (i := 10) [11, 12, 13, 14] (v := ?v10_11b) rfl (by kernel_rfl) (by kernel_rfl) (by kernel_rfl) (by kernel_rfl) (by kernel_rfl) (fun _ _ _ h => h) (Or.inl ⟨by rfl, ?y10_11b⟩) (fun _ => HC.out) ?r10_11b
          case y10_11b =>
            intro w hSw
            (try dsimp only at hSw)
            go_split_ands
            go_simp
            try with_reducible rfl
          try simp only [Act.put, List.setIfInBounds_toArray, List.set_cons_zero, List.set_cons_succ]
          refine wpAnyK_take (i := 11) (v := ?v11_12b) rfl (by kernel_rfl) (by kernel_rfl) (by kernel_rfl) (by kernel_rfl) (fun _ _ _ h => h) (Or.inl ⟨by rfl, ?y11_12b⟩) (fun _ => HC.out) ?r11_12b
          case y11_12b =>
            intro w hSw
            go_simp
            try with_reducible rfl
          try simp only [Act.put, List.setIfInBounds_toArray, List.set_cons_zero, List.set_cons_succ]
          refine wpAnyK_ready (rs := [12]) (by kernel_rfl) (by simp) ?_
          refine AllReadyK.cons (i := 12) rfl (fun K hK => ?_) ?_
          · haveI : Old D b := ⟨hbD⟩
            go_simp
            have HC : Hid ((D.alloc (.cells #[.bool x.ex, .bool true, .string (B x.text)] 51)).cell? ⟨b, off + k * 3, none⟩ = some (.bool x.ex) ∧ (D.alloc (.cells #[.bool x.ex, .bool true, .string (B x.text)] 51)).cell? ⟨b, off + k * 3 + 2, none⟩ = some (.string (B x.text))) := by
              have h := HC.out
              exact ⟨by go_simp, by go_simp⟩
            refine hK.out _ _ (fun _ => HC.out) ?_
            clear hK K
            try simp only [Act.put, List.setIfInBounds_toArray, List.set_cons_zero, List.set_cons_succ]
            refine wpAnyK_ready (rs := [13]) (by kernel_rfl) (by simp) ?_
            refine AllReadyK.cons (i := 13) rfl (fun K hK => ?_) ?_
            · (refine step_append_src _ rfl (.tmp 51) (.tmp 63) _ rfl w.heap.size 51 i3 _ 3 24 Try.underlying44 hi3 hz30 hz31 hz32 rfl (by decide) _ k ((l.take k).flatMap fun p => (quo p).cells) rfl (HO.out.below (below_alloc (Below.refl _ _) _)) _ 1 [.bool x.ex, .bool true, .string (B x.text)] rfl rfl (by refine src_one _ _ _ _ _ ?_; first | rfl | (simp; done) | omega | (simp; omega)) (by simp [Value.oneCell']) (by unfold maxLen; omega) (by omega) (by first | (simp; done) | omega | (simp; omega)) ?_; intro v13 w13 hown13 hg13 hat13 hty13; have HTY13 := Lib.hid hty13; clear hty13)
              have HC : Hid (w13.cell? ⟨b, off + k * 3, none⟩ = some (.bool x.ex) ∧ w13.cell? ⟨b, off + k * 3 + 2, none⟩ = some (.string (B x.text))) := by
                have hk13 := hg13.block b (by simp; omega) (fun hf => by have := hf.2; omega)
                exact ⟨(World.cell?_of_block hk13).trans HC.out.1, (World.cell?_of_block hk13).trans HC.out.2⟩
              obtain ⟨g13, o13, c13, rfl, -, -, -, -⟩ := hown13.form
              refine hK.out _ _ (fun _ => HC.out) ?_
              clear hK K
              try simp only [Act.put, List.setIfInBounds_toArray, List.set_cons_zero, List.set_cons_succ]
              refine wpAnyK_take (i := 14) (v := ?v14_13b) rfl (by kernel_rfl) (by kernel_rfl) (by kernel_rfl) (by kernel_rfl) (fun _ _ _ h => h) (Or.inl ⟨by rfl, ?y14_13b⟩) (fun _ => HC.out) ?r14_13b
              case y14_13b =>
                intro w hSw
                go_simp
                try with_reducible rfl
              try simp only [Act.put, List.setIfInBounds_toArray, List.set_cons_zero, List.set_cons_succ]
              refine wpAnyK_done (by kernel_rfl) ?_ _
              try simp only [Act.put, List.setIfInBounds_toArray, List.set_cons_zero, List.set_cons_succ]
              have hB13 : Below w.heap.size w w13 := below_keeps (below_alloc HB.out _) hg13 (fun k hk => hk.2)
              have HB13 := Lib.hid hB13
              have HO13 := Lib.hid hown13
              clear hB13 hown13 hg13 hat13
              go_wp2
              go_roundw
              case rel => exact ⟨k + 1, some ⟨g13, o13, none⟩, c13, by omega, by go_num, by rw [HT1.out], by first | (rw [HT2.out]; done) | rw [HT2.out, decide_eq_false HoN.out], rfl, by show Own _ _ _ _ _ _; rw [HT3.out]; exact HO13.out, HB13.out⟩
              case measure => simp [intOf]; omega
            exact AllReadyK.nil
          exact AllReadyK.nil
        | false =>
          by_cases ho : 0 < x.text.length
          · rw [decide_eq_true ho] at HT2
            simp only [Bool.false_or] at HT2
            have ho1 : (0 : Int) < (x.text.length : Int) := by omega
            go_wp2
            refine wp_region_keyed (fun W => W.cell? ⟨b, off + k * 3, none⟩ = some (.bool x.ex) ∧ W.cell? ⟨b, off + k * 3 + 2, none⟩ = some (.string (B x.text))) [] (by kernel_rfl) ?_
            obtain ⟨D, hD⟩ : ∃ D, D = wr.drew := ⟨_, rfl⟩
            have HC : Hid (D.cell? ⟨b, off + k * 3, none⟩ = some (.bool x.ex) ∧ D.cell? ⟨b, off + k * 3 + 2, none⟩ = some (.string (B x.text))) := by rw [hD]; exact ⟨f0, f2⟩
            have HO : Hid (Own D w.heap.size 3 (.slice A1 k c1) k ((l.take k).flatMap fun p => (quo p).cells)) := by rw [hD]; exact HO.out.below (below_drew (Below.refl _ _))
            have HB : Hid (Below w.heap.size w D) := by rw [hD]; exact below_drew HB.out
            have hbD : b < D.heap.size := by rw [hD]; exact hb2
            have hwD : w.heap.size ≤ D.heap.size := HB.out.size
            rw [← hD]
            clear hD f0 f2
            refine wpAnyK_take (i := 0) (v := ?v0_1c) rfl (by kernel_rfl) (by kernel_rfl) (by kernel_rfl) (by kernel_rfl) (fun _ _ _ h => h) (Or.inl ⟨by rfl, ?y0_1c⟩) (fun _ => HC.out) ?r0_1c
            case y0_1c =>
              intro w hSw
              go_simp
              try with_reducible rfl
            try simp only [Act.put, List.setIfInBounds_toArray, List.set_cons_zero, List.set_cons_succ]
            refine wpAnyK_take (i := 1) (v := ?v1_2c) rfl (by kernel_rfl) (by kernel_rfl) (by kernel_rfl) (by kernel_rfl) (fun _ _ _ h => h) (Or.inl ⟨by rfl, ?y1_2c⟩) (fun _ => HC.out) ?r1_2c
            case y1_2c =>
              intro w hSw
              go_simp
              try with_reducible rfl
            try simp only [Act.put, List.setIfInBounds_toArray, List.set_cons_zero, List.set_cons_succ]
            refine wpAnyK_take (i := 2) (v := ?v2_3c) rfl (by kernel_rfl) (by kernel_rfl) (by kernel_rfl) (by kernel_rfl) (fun _ _ _ h => h) (Or.inl ⟨by rfl, ?y2_3c⟩) (fun _ => HC.out) ?r2_3c
            case y2_3c =>
              intro w hSw
              go_simp
              try with_reducible rfl
            try simp only [Act.put, List.setIfInBounds_toArray, List.set_cons_zero, List.set_cons_succ]
            refine wpAnyK_take (i := 3) (v := ?v3_4c) rfl (by kernel_rfl) (by kernel_rfl) (by kernel_rfl) (by kernel_rfl) (fun _ _ _ h => h) (Or.inl ⟨by rfl, ?y3_4c⟩) (fun _ => HC.out) ?r3_4c
            case y3_4c =>
              intro w hSw
              go_simp
              try with_reducible rfl
            try simp only [Act.put, List.setIfInBounds_toArray, List.set_cons_zero, List.set_cons_succ]
            refine wpAnyK_take (i := 4) (v := ?v4_5c) rfl (by kernel_rfl) (by kernel_rfl) (by kernel_rfl) (by kernel_rfl) (fun _ _ _ h => h) (Or.inl ⟨by rfl, ?y4_5c⟩) (fun _ => HC.out) ?r4_5c
            case y4_5c =>
              intro w hSw
              go_simp
              try with_reducible rfl
            try simp only [Act.put, List.setIfInBounds_toArray, List.set_cons_zero, List.set_cons_succ]
            refine wpAnyK_load (i := 5) [11, 12, 13, 14] (v := ?v5_6c) rfl (by kernel_rfl) (by kernel_rfl) (by kernel_rfl) (by kernel_rfl) (by kernel_rfl) (fun _ _ _ h => h) (Or.inl ⟨by rfl, ?y5_6c⟩) (fun _ => HC.out) ?r5_6c
            case y5_6c =>
              intro w hSw
              (try dsimp only at hSw)
              go_split_ands
              go_simp
              try with_reducible rfl
            try simp only [Act.put, List.setIfInBounds_toArray, List.set_cons_zero, List.set_cons_succ]
            refine wpAnyK_take (i := 6) (v := ?v6_7c) rfl (by kernel_rfl) (by kernel_rfl) (by kernel_rfl) (by kernel_rfl) (fun _ _ _ h => h) (Or.inl ⟨by rfl, ?y6_7c⟩) (fun _ => HC.out) ?r6_7c
            case y6_7c =>
              intro w hSw
              go_simp
              try with_reducible rfl
            try simp only [Act.put, List.setIfInBounds_toArray, List.set_cons_zero, List.set_cons_succ]
            refine wpAnyK_take (i := 7) (v := ?v7_8c) rfl (by kernel_rfl) (by kernel_rfl) (by kernel_rfl) (by kernel_rfl) (fun _ _ _ h => h) (Or.inl ⟨by rfl, ?y7_8c⟩) (fun _ => HC.out) ?r7_8c
            case y7_8c =>
              intro w hSw
              go_simp
              try with_reducible rfl
            try simp only [Act.put, List.setIfInBounds_toArray, List.set_cons_zero, List.set_cons_succ]
            refine wpAnyK_take (i := 8) (v := ?v8_9c) rfl (by kernel_rfl) (by kernel_rfl) (by kernel_rfl) (by kernel_rfl) (fun _ _ _ h => h) (Or.inl ⟨by rfl, ?y8_9c⟩) (fun _ => HC.out) ?r8_9c
            case y8_9c =>
              intro w hSw
              go_simp
              try with_reducible rfl
            try simp only [Act.put, List.setIfInBounds_toArray, List.set_cons_zero, List.set_cons_succ]
            refine wpAnyK_take (i := 9) (v := ?v9_10c) rfl (by kernel_rfl) (by kernel_rfl) (by kernel_rfl) (by kernel_rfl) (fun _ _ _ h => h) (Or.inl ⟨by rfl, ?y9_10c⟩) (fun _ => HC.out) ?r9_10c
            case y9_10c =>
              intro w hSw
              go_simp
              try with_reducible rfl
            try simp only [Act.put, List.setIfInBounds_toArray, List.set_cons_zero, List.set_cons_succ]
            refine wpAnyK_load (i := 10) [11, 12, 13, 14] (v := ?v10_11c) rfl (by kernel_rfl) (by kernel_rfl) (by kernel_rfl) (by kernel_rfl) (by kernel_rfl) (fun _ _ _ h => h) (Or.inl ⟨by rfl, ?y10_11c⟩) (fun _ => HC.out) ?r10_11c
            case y10_11c =>
              intro w hSw
              (try dsimp only at hSw)
              go_split_ands
              go_simp
              try with_reducible rfl
            try simp only [Act.put, List.setIfInBounds_toArray, List.set_cons_zero, List.set_cons_succ]
            refine wpAnyK_take (i := 11) (v := ?v11_12c) rfl (by kernel_rfl) (by kernel_rfl) (by kernel_rfl) (by kernel_rfl) (fun _ _ _ h => h) (Or.inl ⟨by rfl, ?y11_12c⟩) (fun _ => HC.out) ?r11_12c
            case y11_12c =>
              intro w hSw
              go_simp
              try with_reducible rfl
            try simp only [Act.put, List.setIfInBounds_toArray, List.set_cons_zero, List.set_cons_succ]
            refine wpAnyK_ready (rs := [12]) (by kernel_rfl) (by simp) ?_
            refine AllReadyK.cons (i := 12) rfl (fun K hK => ?_) ?_
            · haveI : Old D b := ⟨hbD⟩
              go_simp
              have HC : Hid ((D.alloc (.cells #[.bool x.ex, .bool true, .string (B x.text)] 51)).cell? ⟨b, off + k * 3, none⟩ = some (.bool x.ex) ∧ (D.alloc (.cells #[.bool x.ex, .bool true, .string (B x.text)] 51)).cell? ⟨b, off + k * 3 + 2, none⟩ = some (.string (B x.text))) := by
                have h := HC.out
                exact ⟨by go_simp, by go_simp⟩
              refine hK.out _ _ (fun _ => HC.out) ?_
              clear hK K
              try simp only [Act.put, List.setIfInBounds_toArray, List.set_cons_zero, List.set_cons_succ]
              refine wpAnyK_ready (rs := [13]) (by kernel_rfl) (by simp) ?_
              refine AllReadyK.cons (i := 13) rfl (fun K hK => ?_) ?_
              · (refine step_append_src _ rfl (.tmp 51) (.tmp 63) _ rfl w.heap.size 51 i3 _ 3 24 Try.underlying44 hi3 hz30 hz31 hz32 rfl (by decide) _ k ((l.take k).flatMap fun p => (quo p).cells) rfl (HO.out.below (below_alloc (Below.refl _ _) _)) _ 1 [.bool x.ex, .bool true, .string (B x.text)] rfl rfl (by refine src_one _ _ _ _ _ ?_; first | rfl | (simp; done) | omega | (simp; omega)) (by simp [Value.oneCell']) (by unfold maxLen; omega) (by omega) (by first | (simp; done) | omega | (simp; omega)) ?_; intro v13 w13 hown13 hg13 hat13 hty13; have HTY13 := Lib.hid hty13; clear hty13)
                have HC : Hid (w13.cell? ⟨b, off + k * 3, none⟩ = some (.bool x.ex) ∧ w13.cell? ⟨b, off + k * 3 + 2, none⟩ = some (.string (B x.text))) := by
                  have hk13 := hg13.block b (by simp; omega) (fun hf => by have := hf.2; omega)
                  exact ⟨(World.cell?_of_block hk13).trans HC.out.1, (World.cell?_of_block hk13).trans HC.out.2⟩
                obtain ⟨g13, o13, c13, rfl, -, -, -, -⟩ := hown13.form
                refine hK.out _ _ (fun _ => HC.out) ?_
                clear hK K
                try simp only [Act.put, List.setIfInBounds_toArray, List.set_cons_zero, List.set_cons_succ]
                refine wpAnyK_take (i := 14) (v := ?v14_13c) rfl (by kernel_rfl) (by kernel_rfl) (by kernel_rfl) (by kernel_rfl) (fun _ _ _ h => h) (Or.inl ⟨by rfl, ?y14_13c⟩) (fun _ => HC.out) ?r14_13c
                case y14_13c =>
                  intro w hSw
                  go_simp
                  try with_reducible rfl
                try simp only [Act.put, List.setIfInBounds_toArray, List.set_cons_zero, List.set_cons_succ]
                refine wpAnyK_done (by kernel_rfl) ?_ _
                try simp only [Act.put, List.setIfInBounds_toArray, List.set_cons_zero, List.set_cons_succ]
                have hB13 : Below w.heap.size w w13 := below_keeps (below_alloc HB.out _) hg13 (fun k hk => hk.2)
                have HB13 := Lib.hid hB13
                have HO13 := Lib.hid hown13
                clear hB13 hown13 hg13 hat13
                go_wp2
                go_roundw
                case rel => exact ⟨k + 1, some ⟨g13, o13, none⟩, c13, by omega, by go_num, by rw [HT1.out], by first | (rw [HT2.out]; done) | rw [HT2.out, decide_eq_false HoN.out], rfl, by show Own _ _ _ _ _ _; rw [HT3.out]; exact HO13.out, HB13.out⟩
                case measure => simp [intOf]; omega
              exact AllReadyK.nil
            exact AllReadyK.nil
          · rw [decide_eq_false ho] at HT2
            simp only [Bool.false_or] at HT2
            have ho1 := no (show ¬ (0 : Int) < (x.text.length : Int) by omega)
            have HoN := Lib.hid ho
            clear ho
            go_wp2
            refine wp_region_keyed (fun W => W.cell? ⟨b, off + k * 3, none⟩ = some (.bool x.ex) ∧ W.cell? ⟨b, off + k * 3 + 2, none⟩ = some (.string (B x.text))) [] (by kernel_rfl) ?_
            obtain ⟨D, hD⟩ : ∃ D, D = wr.drew := ⟨_, rfl⟩
            have HC : Hid (D.cell? ⟨b, off + k * 3, none⟩ = some (.bool x.ex) ∧ D.cell? ⟨b, off + k * 3 + 2, none⟩ = some (.string (B x.text))) := by rw [hD]; exact ⟨f0, f2⟩
            have HO : Hid (Own D w.heap.size 3 (.slice A1 k c1) k ((l.take k).flatMap fun p => (quo p).cells)) := by rw [hD]; exact HO.out.below (below_drew (Below.refl _ _))
            have HB : Hid (Below w.heap.size w D) := by rw [hD]; exact below_drew HB.out
            have hbD : b < D.heap.size := by rw [hD]; exact hb2
            have hwD : w.heap.size ≤ D.heap.size := HB.out.size
            rw [← hD]
            clear hD f0 f2
            refine wpAnyK_take (i := 0) (v := ?v0_1d) rfl (by kernel_rfl) (by kernel_rfl) (by kernel_rfl) (by kernel_rfl) (fun _ _ _ h => h) (Or.inl ⟨by rfl, ?y0_1d⟩) (fun _ => HC.out) ?r0_1d
            case y0_1d =>
              intro w hSw
              go_simp
              try with_reducible rfl
            try simp only [Act.put, List.setIfInBounds_toArray, List.set_cons_zero, List.set_cons_succ]
            refine wpAnyK_take (i := 1) (v := ?v1_2d) rfl (by kernel_rfl) (by kernel_rfl) (by kernel_rfl) (by kernel_rfl) (fun _ _ _ h => h) (Or.inl ⟨by rfl, ?y1_2d⟩) (fun _ => HC.out) ?r1_2d
            case y1_2d =>
              intro w hSw
              go_simp
              try with_reducible rfl
            try simp only [Act.put, List.setIfInBounds_toArray, List.set_cons_zero, List.set_cons_succ]
            refine wpAnyK_take (i := 2) (v := ?v2_3d) rfl (by kernel_rfl) (by kernel_rfl) (by kernel_rfl) (by kernel_rfl) (fun _ _ _ h => h) (Or.inl ⟨by rfl, ?y2_3d⟩) (fun _ => HC.out) ?r2_3d
            case y2_3d =>
              intro w hSw
              go_simp
              try with_reducible rfl
            try simp only [Act.put, List.setIfInBounds_toArray, List.set_cons_zero, List.set_cons_succ]
            refine wpAnyK_take (i := 3) (v := ?v3_4d) rfl (by kernel_rfl) (by kernel_rfl) (by kernel_rfl) (by kernel_rfl) (fun _ _ _ h => h) (Or.inl ⟨by rfl, ?y3_4d⟩) (fun _ => HC.out) ?r3_4d
            case y3_4d =>
              intro w hSw
              go_simp
              try with_reducible rfl
            try simp only [Act.put, List.setIfInBounds_toArray, List.set_cons_zero, List.set_cons_succ]
            refine wpAnyK_take (i := 4) (v := ?v4_5d) rfl (by kernel_rfl) (by kernel_rfl) (by kernel_rfl) (by kernel_rfl) (fun _ _ _ h => h) (Or.inl ⟨by rfl, ?y4_5d⟩) (fun _ => HC.out) ?r4_5d
            case y4_5d =>
              intro w hSw
              go_simp
              try with_reducible rfl
            try simp only [Act.put, List.setIfInBounds_toArray, List.set_cons_zero, List.set_cons_succ]
            refine wpAnyK_load (i := 5) [11, 12, 13, 14] (v := ?v5_6d) rfl (by kernel_rfl) (by kernel_rfl) (by kernel_rfl) (by kernel_rfl) (by kernel_rfl) (fun _ _ _ h => h) (Or.inl ⟨by rfl, ?y5_6d⟩) (fun _ => HC.out) ?r5_6d
            case y5_6d =>
              intro w hSw
              (try dsimp only at hSw)
              go_split_ands
              go_simp
              try with_reducible rfl
            try simp only [Act.put, List.setIfInBounds_toArray, List.set_cons_zero, List.set_cons_succ]
            refine wpAnyK_take (i := 6) (v := ?v6_7d) rfl (by kernel_rfl) (by kernel_rfl) (by kernel_rfl) (by kernel_rfl) (fun _ _ _ h => h) (Or.inl ⟨by rfl, ?y6_7d⟩) (fun _ => HC.out) ?r6_7d
            case y6_7d =>
              intro w hSw
              go_simp
              try with_reducible rfl
            try simp only [Act.put, List.setIfInBounds_toArray, List.set_cons_zero, List.set_cons_succ]
            refine wpAnyK_take (i := 7) (v := ?v7_8d) rfl (by kernel_rfl) (by kernel_rfl) (by kernel_rfl) (by kernel_rfl) (fun _ _ _ h => h) (Or.inl ⟨by rfl, ?y7_8d⟩) (fun _ => HC.out) ?r7_8d
            case y7_8d =>
              intro w hSw
              go_simp
              try with_reducible rfl
            try simp only [Act.put, List.setIfInBounds_toArray, List.set_cons_zero, List.set_cons_succ]
            refine wpAnyK_take (i := 8) (v := ?v8_9d) rfl (by kernel_rfl) (by kernel_rfl) (by kernel_rfl) (by kernel_rfl) (fun _ _ _ h => h) (Or.inl ⟨by rfl, ?y8_9d⟩) (fun _ => HC.out) ?r8_9d
            case y8_9d =>
              intro w hSw
              go_simp
              try with_reducible rfl
            try simp only [Act.put, List.setIfInBounds_toArray, List.set_cons_zero, List.set_cons_succ]
            refine wpAnyK_take (i := 9) (v := ?v9_10d) rfl (by kernel_rfl) (by kernel_rfl) (by kernel_rfl) (by kernel_rfl) (fun _ _ _ h => h) (Or.inl ⟨by rfl, ?y9_10d⟩) (fun _ => HC.out) ?r9_10d
            case y9_10d =>
              intro w hSw
              go_simp
              try with_reducible rfl
            try simp only [Act.put, List.setIfInBounds_toArray, List.set_cons_zero, List.set_cons_succ]
            refine wpAnyK_load (i := 10) [11, 12, 13, 14] (v := ?v10_11d) rfl (by kernel_rfl) (by kernel_rfl) (by kernel_rfl) (by kernel_rfl) (by kernel_rfl) (fun _ _ _ h => h) (Or.inl ⟨by rfl, ?y10_11d⟩) (fun _ => HC.out) ?r10_11d
            case y10_11d =>
              intro w hSw
              (try dsimp only at hSw)
              go_split_ands
              go_simp
              try with_reducible rfl
            try simp only [Act.put, List.setIfInBounds_toArray, List.set_cons_zero, List.set_cons_succ]
            refine wpAnyK_take (i := 11) (v := ?v11_12d) rfl (by kernel_rfl) (by kernel_rfl) (by kernel_rfl) (by kernel_rfl) (fun _ _ _ h => h) (Or.inl ⟨by rfl, ?y11_12d⟩) (fun _ => HC.out) ?r11_12d
            case y11_12d =>
              intro w hSw
              go_simp
              try with_reducible rfl
            try simp only [Act.put, List.setIfInBounds_toArray, List.set_cons_zero, List.set_cons_succ]
            refine wpAnyK_ready (rs := [12]) (by kernel_rfl) (by simp) ?_
            refine AllReadyK.cons (i := 12) rfl (fun K hK => ?_) ?_
            · haveI : Old D b := ⟨hbD⟩
              go_simp
              have HC : Hid ((D.alloc (.cells #[.bool x.ex, .bool true, .string (B x.text)] 51)).cell? ⟨b, off + k * 3, none⟩ = some (.bool x.ex) ∧ (D.alloc (.cells #[.bool x.ex, .bool true, .string (B x.text)] 51)).cell? ⟨b, off + k * 3 + 2, none⟩ = some (.string (B x.text))) := by
                have h := HC.out
                exact ⟨by go_simp, by go_simp⟩
              refine hK.out _ _ (fun _ => HC.out) ?_
              clear hK K
              try simp only [Act.put, List.setIfInBounds_toArray, List.set_cons_zero, List.set_cons_succ]
              refine wpAnyK_ready (rs := [13]) (by kernel_rfl) (by simp) ?_
              refine AllReadyK.cons (i := 13) rfl (fun K hK => ?_) ?_
              · (refine step_append_src _ rfl (.tmp 51) (.tmp 63) _ rfl w.heap.size 51 i3 _ 3 24 Try.underlying44 hi3 hz30 hz31 hz32 rfl (by decide) _ k ((l.take k).flatMap fun p => (quo p).cells) rfl (HO.out.below (below_alloc (Below.refl _ _) _)) _ 1 [.bool x.ex, .bool true, .string (B x.text)] rfl rfl (by refine src_one _ _ _ _ _ ?_; first | rfl | (simp; done) | omega | (simp; omega)) (by simp [Value.oneCell']) (by unfold maxLen; omega) (by omega) (by first | (simp; done) | omega | (simp; omega)) ?_; intro v13 w13 hown13 hg13 hat13 hty13; have HTY13 := Lib.hid hty13; clear hty13)
                have HC : Hid (w13.cell? ⟨b, off + k * 3, none⟩ = some (.bool x.ex) ∧ w13.cell? ⟨b, off + k * 3 + 2, none⟩ = some (.string (B x.text))) := by
                  have hk13 := hg13.block b (by simp; omega) (fun hf => by have := hf.2; omega)
                  exact ⟨(World.cell?_of_block hk13).trans HC.out.1, (World.cell?_of_block hk13).trans HC.out.2⟩
                obtain ⟨g13, o13, c13, rfl, -, -, -, -⟩ := hown13.form
                refine hK.out _ _ (fun _ => HC.out) ?_
                clear hK K
                try simp only [Act.put, List.setIfInBounds_toArray, List.set_cons_zero, List.set_cons_succ]
                refine wpAnyK_take (i := 14) (v := ?v14_13d) rfl (by kernel_rfl) (by kernel_rfl) (by kernel_rfl) (by kernel_rfl) (fun _ _ _ h => h) (Or.inl ⟨by rfl, ?y14_13d⟩) (fun _ => HC.out) ?r14_13d
                case y14_13d =>
                  intro w hSw
                  go_simp
                  try with_reducible rfl
                try simp only [Act.put, List.setIfInBounds_toArray, List.set_cons_zero, List.set_cons_succ]
                refine wpAnyK_done (by kernel_rfl) ?_ _
                try simp only [Act.put, List.setIfInBounds_toArray, List.set_cons_zero, List.set_cons_succ]
                have hB13 : Below w.heap.size w w13 := below_keeps (below_alloc HB.out _) hg13 (fun k hk => hk.2)
                have HB13 := Lib.hid hB13
                have HO13 := Lib.hid hown13
                clear hB13 hown13 hg13 hat13
                go_wp2
                go_roundw
                case rel => exact ⟨k + 1, some ⟨g13, o13, none⟩, c13, by omega, by go_num, by rw [HT1.out], by first | (rw [HT2.out]; done) | rw [HT2.out, decide_eq_false HoN.out], rfl, by show Own _ _ _ _ _ _; rw [HT3.out]; exact HO13.out, HB13.out⟩
                case measure => simp [intOf]; omega
              exact AllReadyK.nil
            exact AllReadyK.nil
    · have hk' : k = l.length := by omega
      subst hk'
      rw [List.take_length] at *
      obtain ⟨pa, ea⟩ := whole_a l
      obtain ⟨pb, eb⟩ := whole_b l sp
      have hpl := HPL.out
      have hul := units_len l 40 hpl
      have hul2 : (unitsOf (l.map quo)).length ≤ 41 * 12 := by
        have := units_len (l.map quo) 40 (fun p hp => by obtain ⟨q, hq, rfl⟩ := List.mem_map.1 hp; exact hpl q hq)
        rw [List.length_map] at this
        omega
      have hOQ := HO.out
      rw [piece_flat] at hOQ
      have HQ := Lib.hid (hOQ.sl (en := Piece.cells) (fun _ _ => rfl) (by simp))
      have hw : w.heap.size ≤ wr.heap.size := HB.out.size
      have HSA := Lib.hid (split_any (.slice A l.length c) l [] wr (HV.out.below HB.out) (by omega) (fun p hp => by have := hpl p hp; omega) (by omega))
      have HSB := fun (W : World) (hW : Below wr.heap.size wr W) => Lib.hid (split_any (.slice A1 l.length c1) (l.map quo) sp W (HQ.out.below hW) (by simp; omega) (fun p hp => by obtain ⟨q, hq, rfl⟩ := List.mem_map.1 hp; have := hpl q hq; simp only [quo]; omega) (by omega))
      rw [ea] at HSA
      rw [eb] at HSB
      have HSB := Lib.hid HSB
      clear ea eb hpl hul hul2 hOQ
      generalize textOf l = t at *
      cases hs : someB l with
      | false =>
        rw [hs] at HSA
        simp only [Bool.false_eq_true, if_false] at HSA
        by_cases hne : l = []
        · simp only [if_pos hne] at HSB
          have hl0 : l.length = 0 := by rw [hne]; rfl
          clear hne
          have hl1 : decide (0 < l.length) = false := no (by omega)
          clear hl0
          go_wp2_with (first
            | (go_at_call 31; clear tok; refine (HSB.out _ HB1.out).out.mono ?_; rintro e w2 ⟨v, rfl, ho, hb⟩; obtain ⟨A3, c3, rfl, _⟩ := ho.form0; have HB2 := Lib.hid hb; clear ho hb; simp only [List.length_nil])
            | (go_at_call 31; refine HSA.out.mono ?_; rintro e w1 ⟨v, rfl, ho, hb⟩; obtain ⟨A2, c2, rfl, _⟩ := ho.form0; have tok : True := trivial; have HB1 := Lib.hid hb; clear ho hb; simp only [List.length_nil])
            | go_in)
          go_ret
          exact ⟨rfl, HB.out.trans ((HB1.out.trans (HB2.out.mono HB1.out.size)).mono hw)⟩
        · simp only [if_neg hne] at HSB
          have hl0 : 0 < l.length := List.length_pos_iff.2 hne
          clear hne
          have hl1 : decide (0 < l.length) = true := decide_eq_true hl0
          go_wp2_with (first
            | (go_at_call 31; clear tok; refine (HSB.out _ HB1.out).out.mono ?_; rintro e w2 ⟨v, rfl, ho, hb⟩; obtain ⟨A3, c3, rfl, _⟩ := ho.form0; have HB2 := Lib.hid hb; clear ho hb; simp only [List.length_cons, List.length_nil, Nat.zero_add])
            | (go_at_call 31; refine HSA.out.mono ?_; rintro e w1 ⟨v, rfl, ho, hb⟩; obtain ⟨A2, c2, rfl, _⟩ := ho.form0; have tok : True := trivial; have HB1 := Lib.hid hb; clear ho hb; simp only [List.length_nil])
            | go_in)
          go_ret
          exact ⟨rfl, HB.out.trans ((HB1.out.trans (HB2.out.mono HB1.out.size)).mono hw)⟩
      | true =>
        rw [hs] at HSA
        simp only [if_true] at HSA
        have hne : l ≠ [] := by intro e; subst e; cases hs
        simp only [if_neg hne] at HSB
        clear hne hs
        go_wp2_with (first
          | (go_at_call 31; refine (HSB.out _ HB1.out).out.mono ?_; rintro e w2 ⟨v, rfl, ho, hb⟩; obtain ⟨g3, o3, c3, rfl, -, -, -, -⟩ := ho.form; have d3 := (ho.fd (k := 0) rfl).1; have d2 := (hb.cell (p := ⟨g2, o2, none⟩) hg2).trans c20; simp only [Nat.zero_mul, Nat.add_zero] at d3; have HB2 := Lib.hid hb; clear c20 hg2 ho hb; simp only [List.length_cons, List.length_nil, Nat.zero_add])
          | (go_at_call 31; refine HSA.out.mono ?_; rintro e w1 ⟨v, rfl, ho, hb⟩; obtain ⟨g2, o2, c2, rfl, -, hg2, -, -⟩ := ho.form; have c20 := (ho.fd (k := 0) rfl).1; simp only [Nat.zero_mul, Nat.add_zero] at c20; have HB1 := Lib.hid hb; clear ho hb; simp only [List.length_cons, List.length_nil, Nat.zero_add]))
        go_ret
        exact ⟨rfl, HB.out.trans ((HB1.out.trans (HB2.out.mono HB1.out.size)).mono hw)⟩
end Go.Proofs.Ytkinjjgaecbogaa.fieldsWhole

