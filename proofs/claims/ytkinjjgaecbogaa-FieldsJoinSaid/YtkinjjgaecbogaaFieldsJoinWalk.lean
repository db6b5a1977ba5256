/-
  The walk of the law FieldsJoin: it returns true, whatever its arguments. Conditions: none (arguments as the row reads them). Printed by gen_fjoin.py.
-/
import Derived.Test.YtkinjjgaecbogaaFieldsJoin
import Derived.Test.YtkinjjgaecbogaaFieldsRef
namespace Go.Proofs.Ytkinjjgaecbogaa.fieldsJoin
open Go.ChangeShapes Go.WideShapes Go.Deep Go.ChangeAt Go.RowKit
set_option maxRecDepth 100000
set_option linter.unusedSimpArgs false
theorem jstr_cells : Try.prog.cellsOf 9 = 1 := by kernel_rfl
theorem jstr_dec {H : Type} {enc : TypeId × Value → H} {w : World} {fuel : Nat} {cs : List Value} {d : DataW H × List MemPlace}
    (h : DataW.trod enc Try.prog w 0 (fun _ => true) true fuel 9 cs = some d) : ∃ x : List UInt8, cs = strC x ∧ x.length ≤ 9223372036854775807 := by
  obtain ⟨s1, e1, _, w1⟩ := DataW.trod_string Try.underlying9 h
  obtain ⟨a, rfl⟩ := B_all s1
  rw [B_size] at w1
  exact ⟨a, e1, w1⟩
theorem conv_one (W : World) (b : UInt8) : (convert 58 9 (.slice (some ⟨W.heap.size, 0, none⟩) 1 1)).run Try.prog (W.alloc (.cells #[.int .u8 b.toNat] 5)) = .ok (.string (B [b])) (W.alloc (.cells #[.int .u8 b.toNat] 5)) := by
  have := Lib.run_convert_whole (P := Try.prog) (W.alloc (.cells #[.int .u8 b.toNat] 5)) _ _ _ Try.underlying58 Try.underlying5 Try.underlying9 W.heap.size 0 (B [b]) (fun i hi => by
    rw [B_size] at hi
    obtain rfl : i = 0 := by simp at hi; omega
    go_simp) 1
  rw [B_size] at this
  exact this
theorem fd_flat2 (ts : List (List UInt8)) : (ts.flatMap fun t => (fdOf t).cells) = (ts.map fdOf).flatMap Fd.cells := by simp [List.flatMap_map]
theorem text_of (ts : List (List UInt8)) : (ts.map fdOf).map (·.text) = ts := by
  rw [List.map_map]
  have : ((fun x : Fd => x.text) ∘ fdOf) = id := rfl
  rw [this, List.map_id]
/-- What is known of the texts that the loop has been through. -/
def okT (by_ : UInt8) (ts : List (List UInt8)) : Prop := ∀ t ∈ ts, t ≠ [] ∧ t.length ≤ 20 ∧ t.contains by_ = false
set_option maxHeartbeats 6400000 in
theorem walk {H : Type} (enc : TypeId × Value → H) (w : World) (base : Nat) {v0 v1 : Value} {d0 d1 : DataW H} {p0 p1 : List MemPlace}
    (h0 : DataW.Trod enc Try.prog w 0 (fun _ => true) true 22 v0 d0 p0) (k0 : Value.okWide Try.prog w .any base 22 v0)
    (h1 : DataW.Trod enc Try.prog w 0 (fun _ => true) true 5 v1 d1 p1) (k1 : Value.okWide Try.prog w .any base 5 v1) :
    Calls Try.prog 9 #[v0, v1] w fun e w' => e = .returned (.bool true) ∧ Below w.heap.size w w' := by
  obtain ⟨l, hv, hok, hl⟩ := open_sl strC (fun x => x.length ≤ 9223372036854775807) Try.underlying22 jstr_cells (by omega) jstr_dec h0 k0
  obtain ⟨y, rfl, hy0, hy1⟩ : ∃ y : Int, v1 = .int .u8 y ∧ 0 ≤ y ∧ y ≤ 255 := by
    obtain ⟨x, rfl, rfl, rfl, wx⟩ := open_int Try.underlying5 k1 h1
    exact ⟨x, rfl, by simpa using bounds_u8 wx⟩
  obtain ⟨by_, rfl⟩ : ∃ b : UInt8, y = b.toNat := ⟨UInt8.ofNat y.toNat, by simp [UInt8.toNat_ofNat]; omega⟩
  clear h0 k0 h1 k1 hok hy0 hy1
  obtain ⟨i2, hi2, hz20, hz21, hz22⟩ := info_parts info_fd
  obtain ⟨A, c, rfl, hc1, hc2, hn, hA⟩ := hv
  have HA := Lib.hid hA
  clear hA hn
  have h9 := u8eq9 by_
  have h10 := u8eq10 by_
  by_cases hl1 : 10 < l.length
  · clear h9 h10
    go_enter Try.func9, Try.ntmps9
    go_wp2_with (first | (go_at_call 28; refine (awake26_any _).mono ?_; rintro e w' ⟨rfl, hb⟩; obtain ⟨g, rfl⟩ := to_grow hb; clear hb))
    go_ret
    exact ⟨rfl, by (repeat (first | exact Below.refl _ _ | assumption | with_reducible refine below_alloc ?_ _ | with_reducible refine below_grow ?_ _ | with_reducible refine below_drewN ?_ _ | with_reducible refine below_drew ?_ | with_reducible refine below_setCell ?_ (by first | (dsimp only; omega) | (simp; done) | (simp; omega)) _))⟩
  have hl10 : l.length ≤ 10 := by omega
  have hd := no (show ¬ (10 : Int) < (l.length : Int) by omega)
  clear hl1
  cases e9 : by_ == 9 with
  | true =>
    rw [e9] at h9
    clear h10 e9
    go_enter Try.func9, Try.ntmps9
    go_wp2_with (first | (go_at_call 28; refine (awake26_any _).mono ?_; rintro e w' ⟨rfl, hb⟩; obtain ⟨g, rfl⟩ := to_grow hb; clear hb))
    go_ret
    exact ⟨rfl, by (repeat (first | exact Below.refl _ _ | assumption | with_reducible refine below_alloc ?_ _ | with_reducible refine below_grow ?_ _ | with_reducible refine below_drewN ?_ _ | with_reducible refine below_drew ?_ | with_reducible refine below_setCell ?_ (by first | (dsimp only; omega) | (simp; done) | (simp; omega)) _))⟩
  | false =>
  rw [e9] at h9
  clear e9
  cases e10 : by_ == 10 with
  | true =>
    rw [e10] at h10
    clear e10
    go_enter Try.func9, Try.ntmps9
    go_wp2_with (first | (go_at_call 28; refine (awake26_any _).mono ?_; rintro e w' ⟨rfl, hb⟩; obtain ⟨g, rfl⟩ := to_grow hb; clear hb))
    go_ret
    exact ⟨rfl, by (repeat (first | exact Below.refl _ _ | assumption | with_reducible refine below_alloc ?_ _ | with_reducible refine below_grow ?_ _ | with_reducible refine below_drewN ?_ _ | with_reducible refine below_drew ?_ | with_reducible refine below_setCell ?_ (by first | (dsimp only; omega) | (simp; done) | (simp; omega)) _))⟩
  | false =>
  rw [e10] at h10
  clear e10
  have hcv := fun W : World => conv_one W by_
  have hcv2 : ∀ (W : World) (p : Obj), (convert 58 9 (.slice (some ⟨W.heap.size + 1, 0, none⟩) 1 1)).run Try.prog ((W.alloc p).alloc (.cells #[.int .u8 by_.toNat] 5)) = .ok (.string (B [by_])) ((W.alloc p).alloc (.cells #[.int .u8 by_.toNat] 5)) := fun W p => by
    have := conv_one (W.alloc p) by_
    rwa [World.size_alloc] at this
  go_enter Try.func9, Try.ntmps9
  go_wp2_with (first | (go_at_call 28; refine (awake26_any _).mono ?_; rintro e w' ⟨rfl, hb⟩; obtain ⟨g, rfl⟩ := to_grow hb; clear hb))
  clear hd h9 h10
  go_loopw [5, 6, 7] (fun f s i wr => ∃ (k : Nat) (A1 : Option Addr) (c1 : Nat), k ≤ l.length ∧ f = .slice A1 k c1 ∧ i = .int .i64 k ∧ s = .string (B (Lib.join (l.take k) [by_])) ∧ Hid (Own wr w.heap.size 2 (.slice A1 k c1) k ((l.take k).flatMap fun t => (fdOf t).cells)) ∧ Hid (okT by_ (l.take k)) ∧ Hid (Below w.heap.size w wr)) (fun _ _ i _ => l.length - (intOf i).toNat)
  case atStart => exact ⟨0, none, 0, by omega, rfl, rfl, rfl, Own.nil _ _ _, (fun t ht => by simp at ht), by show Below _ _ _; (repeat (first | exact Below.refl _ _ | assumption | with_reducible refine below_alloc ?_ _ | with_reducible refine below_grow ?_ _ | with_reducible refine below_drewN ?_ _ | with_reducible refine below_drew ?_ | with_reducible refine below_setCell ?_ (by first | (dsimp only; omega) | (simp; done) | (simp; omega)) _))⟩
  case round =>
    obtain ⟨k, A1, c1, hk, rfl, rfl, rfl, HO, HOK, HB⟩ := hrel
    have hwz := HB.out.size
    have HJL := join_len_le by_ (l.take k) 20 (fun t ht => (HOK.out t ht).2.1)
    rw [List.length_take] at HJL
    have hjl : (Lib.join (l.take k) [by_]).length ≤ 1000 := by omega
    clear HJL
    by_cases hlt : k < l.length
    · obtain ⟨b, off, rfl, hb, hc⟩ := HA.out (by omega)
      have e0 : wr.cell? ⟨b, off + k, none⟩ = some (.string (B l[k])) := by have := (HB.out.cell (p := ⟨b, _, none⟩) hb).trans (hc k _ (List.getElem?_eq_getElem hlt) 0 _ rfl); simpa using this
      clear hc
      have hb2 : b < wr.heap.size := Nat.lt_of_lt_of_le hb hwz
      have hi0 : (0 : Int) ≤ (k : Int) := by omega
      have hi1 : (k : Int) < (l.length : Int) := by omega
      have HT := Lib.hid (show l.take (k + 1) = l.take k ++ [l[k]] by rw [List.take_succ_eq_append_getElem hlt])
      generalize hx : l[k] = x at *
      clear hx
      by_cases hxn : x = []
      · subst hxn
        go_wp2
        go_ret
        exact ⟨rfl, HB.out⟩
      have hx0 : ((x.length : Int) == 0) = false := by rw [beq_eq_false_iff_ne]; intro e; exact hxn (List.eq_nil_of_length_eq_zero (by omega))
      by_cases hx20 : 20 < x.length
      · have HXN := Lib.hid hxn
        clear hxn
        go_wp2
        go_ret
        exact ⟨rfl, HB.out⟩
      have hxl : x.length ≤ 20 := by omega
      have hx21 := no (show ¬ (20 : Int) < (x.length : Int) by omega)
      have HXN := Lib.hid hxn
      clear hx20 hxn
      have HIN := Lib.hid (in_any by_ x wr (by omega))
      cases hc : x.contains by_ with
      | true =>
        rw [hc] at HIN
        clear hc
        go_wp2_with ((go_at_call 34; refine (HIN.out).mono ?_; rintro e w' ⟨rfl, rfl⟩))
        go_ret
        exact ⟨rfl, HB.out⟩
      | false =>
        rw [hc] at HIN
        have HOK1 : Hid (okT by_ (l.take (k + 1))) := by
          show okT _ _
          intro t ht
          rw [HT.out, List.mem_append, List.mem_singleton] at ht
          rcases ht with ht | rfl
          · exact HOK.out t ht
          · exact ⟨HXN.out, hxl, hc⟩
        have HT3 := Lib.hid (show ((l.take (k + 1)).flatMap fun t => (fdOf t).cells) = ((l.take k).flatMap fun t => (fdOf t).cells) ++ [.string (B x), .string (B x)] by rw [HT.out, List.flatMap_append]; rfl)
        clear hc
        go_wp2_with ((go_at_call 34; refine (HIN.out).mono ?_; rintro e w' ⟨rfl, rfl⟩))
        refine wp_region_keyed (fun W => W.cell? ⟨b, off + k, none⟩ = some (.string (B x))) [] (by kernel_rfl) ?_
        obtain ⟨D, hD⟩ : ∃ D, D = wr.drew := ⟨_, rfl⟩
        have HC : Hid (D.cell? ⟨b, off + k, none⟩ = some (.string (B x))) := by rw [hD]; exact e0
        have HO : Hid (Own D w.heap.size 2 (.slice A1 k c1) k ((l.take k).flatMap fun t => (fdOf t).cells)) := by rw [hD]; exact HO.out.below (below_drew (Below.refl _ _))
        have HB : Hid (Below w.heap.size w D) := by rw [hD]; exact below_drew HB.out
        have hbD : b < D.heap.size := by rw [hD]; exact hb2
        have hwD : w.heap.size ≤ D.heap.size := HB.out.size
        rw [← hD]
        clear hD e0
        refine wpAnyK_take (i := 0) (v := ?v0_1a) rfl (by kernel_rfl) (by kernel_rfl) (by kernel_rfl) (by kernel_rfl) (fun _ _ _ h => h) (Or.inl ⟨by rfl, ?y0_1a⟩) (fun _ => HC.out) ?r0_1a
        case y0_1a =>
          intro w hSw
          go_simp
          try with_reducible rfl
        try simp only [Act.put, List.setIfInBounds_toArray, List.set_cons_zero, List.set_cons_succ]
        refine wpAnyK_take (i := 1) (v := ?v1_2a) rfl (by kernel_rfl) (by kernel_rfl) (by kernel_rfl) (by kernel_rfl) (fun _ _ _ h => h) (Or.inl ⟨by rfl, ?y1_2a⟩) (fun _ => HC.out) ?r1_2a
        case y1_2a =>
          intro w hSw
          go_simp
          try with_reducible rfl
        try simp only [Act.put, List.setIfInBounds_toArray, List.set_cons_zero, List.set_cons_succ]
        refine wpAnyK_take (i := 2) (v := ?v2_3a) rfl (by kernel_rfl) (by kernel_rfl) (by kernel_rfl) (by kernel_rfl) (fun _ _ _ h => h) (Or.inl ⟨by rfl, ?y2_3a⟩) (fun _ => HC.out) ?r2_3a
        case y2_3a =>
          intro w hSw
          go_simp
          try with_reducible rfl
        try simp only [Act.put, List.setIfInBounds_toArray, List.set_cons_zero, List.set_cons_succ]
        refine wpAnyK_take (i := 3) (v := ?v3_4a) rfl (by kernel_rfl) (by kernel_rfl) (by kernel_rfl) (by kernel_rfl) (fun _ _ _ h => h) (Or.inl ⟨by rfl, ?y3_4a⟩) (fun _ => HC.out) ?r3_4a
        case y3_4a =>
          intro w hSw
          go_simp
          try with_reducible rfl
        try simp only [Act.put, List.setIfInBounds_toArray, List.set_cons_zero, List.set_cons_succ]
        refine wpAnyK_load (i := 4) [9, 10, 11, 12] (v := ?v4_5a) rfl (by kernel_rfl) (by kernel_rfl) (by kernel_rfl) (by kernel_rfl) (by kernel_rfl) (fun _ _ _ h => h) (Or.inl ⟨by rfl, ?y4_5a⟩) (fun _ => HC.out) ?r4_5a
        case y4_5a =>
          intro w hSw
          (try dsimp only at hSw)
          go_split_ands
          go_simp
          try with_reducible rfl
        try simp only [Act.put, List.setIfInBounds_toArray, List.set_cons_zero, List.set_cons_succ]
        refine wpAnyK_take (i := 5) (v := ?v5_6a) rfl (by kernel_rfl) (by kernel_rfl) (by kernel_rfl) (by kernel_rfl) (fun _ _ _ h => h) (Or.inl ⟨by rfl, ?y5_6a⟩) (fun _ => HC.out) ?r5_6a
        case y5_6a =>
          intro w hSw
          go_simp
          try with_reducible rfl
        try simp only [Act.put, List.setIfInBounds_toArray, List.set_cons_zero, List.set_cons_succ]
        refine wpAnyK_take (i := 6) (v := ?v6_7a) rfl (by kernel_rfl) (by kernel_rfl) (by kernel_rfl) (by kernel_rfl) (fun _ _ _ h => h) (Or.inl ⟨by rfl, ?y6_7a⟩) (fun _ => HC.out) ?r6_7a
        case y6_7a =>
          intro w hSw
          go_simp
          try with_reducible rfl
        try simp only [Act.put, List.setIfInBounds_toArray, List.set_cons_zero, List.set_cons_succ]
        refine wpAnyK_take (i := 7) (v := ?v7_8a) rfl (by kernel_rfl) (by kernel_rfl) (by kernel_rfl) (by kernel_rfl) (fun _ _ _ h => h) (Or.inl ⟨by rfl, ?y7_8a⟩) (fun _ => HC.out) ?r7_8a
        case y7_8a =>
          intro w hSw
          go_simp
          try with_reducible rfl
        try simp only [Act.put, List.setIfInBounds_toArray, List.set_cons_zero, List.set_cons_succ]
        refine wpAnyK_load (i := 8) [9, 10, 11, 12] (v := ?v8_9a) rfl (by kernel_rfl) (by kernel_rfl) (by kernel_rfl) (by kernel_rfl) (by kernel_rfl) (fun _ _ _ h => h) (Or.inl ⟨by rfl, ?y8_9a⟩) (fun _ => HC.out) ?r8_9a
        case y8_9a =>
          intro w hSw
          (try dsimp only at hSw)
          go_split_ands
          go_simp
          try with_reducible rfl
        try simp only [Act.put, List.setIfInBounds_toArray, List.set_cons_zero, List.set_cons_succ]
        refine wpAnyK_take (i := 9) (v := ?v9_10a) rfl (by kernel_rfl) (by kernel_rfl) (by kernel_rfl) (by kernel_rfl) (fun _ _ _ h => h) (Or.inl ⟨by rfl, ?y9_10a⟩) (fun _ => HC.out) ?r9_10a
        case y9_10a =>
          intro w hSw
          go_simp
          try with_reducible rfl
        try simp only [Act.put, List.setIfInBounds_toArray, List.set_cons_zero, List.set_cons_succ]
        refine wpAnyK_ready (rs := [10]) (by kernel_rfl) (by simp) ?_
        refine AllReadyK.cons (i := 10) rfl (fun K hK => ?_) ?_
        · haveI : Old D b := ⟨hbD⟩
          go_simp
          have HC : Hid ((D.alloc (.cells #[.string (B x), .string (B x)] 54)).cell? ⟨b, off + k, none⟩ = some (.string (B x))) := by
            have h := HC.out
            show _ = _
            go_simp
          refine hK.out _ _ (fun _ => HC.out) ?_
          clear hK K
          try simp only [Act.put, List.setIfInBounds_toArray, List.set_cons_zero, List.set_cons_succ]
          refine wpAnyK_ready (rs := [11]) (by kernel_rfl) (by simp) ?_
          refine AllReadyK.cons (i := 11) rfl (fun K hK => ?_) ?_
          · (refine step_append_src _ rfl (.tmp 50) (.tmp 60) _ rfl w.heap.size 54 i2 _ 2 32 Try.underlying47 hi2 hz20 hz21 hz22 rfl (by decide) _ k ((l.take k).flatMap fun t => (fdOf t).cells) rfl (HO.out.below (below_alloc (Below.refl _ _) _)) _ 1 [.string (B x), .string (B x)] rfl rfl (by refine src_one _ _ _ _ _ ?_; first | rfl | (simp; done) | omega | (simp; omega)) (by simp [Value.oneCell']) (by unfold maxLen; omega) (by omega) (by first | (simp; done) | omega | (simp; omega)) ?_; intro v11 w11 hown11 hg11 hat11 hty11; have HTY11 := Lib.hid hty11; clear hty11)
            have HC : Hid (w11.cell? ⟨b, off + k, none⟩ = some (.string (B x))) := by
              have hk11 := hg11.block b (by simp; omega) (fun hf => by have := hf.2; omega)
              exact (World.cell?_of_block hk11).trans HC.out
            have HB11 := Lib.hid (below_keeps (below_alloc HB.out _) hg11 (fun k hk => hk.2))
            have HO11 := Lib.hid hown11
            obtain ⟨g11, o11, c11, rfl, -, -, -, -⟩ := hown11.form
            refine hK.out _ _ (fun _ => HC.out) ?_
            clear hK K
            try simp only [Act.put, List.setIfInBounds_toArray, List.set_cons_zero, List.set_cons_succ]
            refine wpAnyK_take (i := 12) (v := ?v12_11a) rfl (by kernel_rfl) (by kernel_rfl) (by kernel_rfl) (by kernel_rfl) (fun _ _ _ h => h) (Or.inl ⟨by rfl, ?y12_11a⟩) (fun _ => HC.out) ?r12_11a
            case y12_11a =>
              intro w hSw
              go_simp
              try with_reducible rfl
            try simp only [Act.put, List.setIfInBounds_toArray, List.set_cons_zero, List.set_cons_succ]
            refine wpAnyK_done (by kernel_rfl) ?_ _
            try simp only [Act.put, List.setIfInBounds_toArray, List.set_cons_zero, List.set_cons_succ]
            have e0 := HC.out
            have hb11 : b < w11.heap.size := Nat.lt_of_lt_of_le hb HB11.out.size
            haveI : Old w11 b := ⟨hb11⟩
            clear hown11 hg11 hat11
            have hbz := HB11.out
            cases hk0 : decide (0 < k) with
            | true =>
              have hk1 : 0 < k := of_decide_eq_true hk0
              have HW := Lib.hid (show Lib.join (l.take (k + 1)) [by_] = (Lib.join (l.take k) [by_] ++ [by_]) ++ x by rw [HT.out, join_snoc, if_neg (by intro e; have := congrArg List.length e; rw [List.length_take, List.length_nil] at this; omega)])
              go_wp2
              go_roundw
              case rel => exact ⟨k + 1, some ⟨g11, o11, none⟩, c11, by omega, rfl, by go_num, by rw [HW.out]; first | rfl | (simp; done), by show Own _ _ _ _ _ _; rw [HT3.out]; exact HO11.out.below (below_alloc (Below.refl _ _) _), HOK1.out, below_alloc HB11.out _⟩
              case measure => simp [intOf]; omega
            | false =>
              have hk1 : k = 0 := by have := of_decide_eq_false hk0; omega
              have HW := Lib.hid (show Lib.join (l.take (k + 1)) [by_] = x by rw [HT.out, join_snoc, if_pos (by rw [hk1]; rfl)])
              have HW0 : Lib.join (l.take k) [by_] = [] := by rw [hk1]; rfl
              have HK1 := Lib.hid hk1
              clear hk1
              go_wp2
              go_roundw
              case rel => exact ⟨k + 1, some ⟨g11, o11, none⟩, c11, by omega, rfl, by go_num, by rw [HW.out], by show Own _ _ _ _ _ _; rw [HT3.out]; exact HO11.out, HOK1.out, HB11.out⟩
              case measure => simp [intOf]; omega
          exact AllReadyK.nil
        exact AllReadyK.nil
    · have hk' : k = l.length := by omega
      subst hk'
      rw [List.take_length] at *
      have hoo := HO.out
      rw [fd_flat2] at hoo
      have hoo2 : Own wr w.heap.size 2 (.slice A1 l.length c1) (l.map fdOf).length ((l.map fdOf).flatMap Fd.cells) := by rw [List.length_map]; exact hoo
      have hokt : ∀ t ∈ l, t ≠ [] ∧ t.contains by_ = false := fun t ht => ⟨(HOK.out t ht).1, (HOK.out t ht).2.2⟩
      have hjp := join_parts by_ l hokt
      have HJ : ∀ W : World, Below wr.heap.size wr W → Hid (Calls Try.prog 35 #[.slice A1 l.length c1, .string (B [by_, 120])] W fun e w' => e = .returned (.string (B (Lib.join l [by_]))) ∧ Below W.heap.size W w') := fun W hW => by
        have := join_any (.slice A1 l.length c1) (l.map fdOf) by_ [120] W ((hoo2.below hW).sl fd_len rfl) (by simp; omega) (by rw [text_of]; omega) (by simp)
        rw [text_of] at this
        exact this
      have HSP : ∀ W : World, Hid (Calls Try.prog 31 #[.slice (some ⟨W.heap.size, 0, none⟩) 1 1, .string (B [by_])] ((W.alloc (.cells #[.bool true, .bool false, .string (B (Lib.join l [by_]))] 51)).alloc (.cells #[.int .u8 by_.toNat] 5))
          (SplitPost (l.map fdOf) ((W.alloc (.cells #[.bool true, .bool false, .string (B (Lib.join l [by_]))] 51)).alloc (.cells #[.int .u8 by_.toNat] 5)))) := fun W => by
        have := split_any _ [⟨true, false, Lib.join l [by_]⟩] [by_] _ ((sl_piece W ⟨true, false, Lib.join l [by_]⟩ 51).below (below_alloc (Below.refl _ _) (.cells #[.int .u8 by_.toNat] 5))) (by simp) (by simp; omega) (by simp [unitsOf, unitsP, headU]; omega)
        rw [hjp] at this
        exact this
      have HSM : Hid (∀ (v : Value) (b0 : Nat) (W : World), Own W b0 2 v (l.map fdOf).length ((l.map fdOf).flatMap Fd.cells) → Below wr.heap.size wr W → Calls Try.prog 30 #[v, .slice A1 l.length c1] W fun e w' => e = .returned (.bool true) ∧ Below W.heap.size W w') :=
        fun v b0 W hv hW => (same_fd (l.map fdOf) (l.map fdOf) v _ W (hv.sl fd_len rfl) ((hoo2.below hW).sl fd_len rfl)).mono fun e w' h => ⟨by rw [h.1, decide_eq_true rfl], h.2⟩
      replace HJ := Lib.hid HJ
      replace HSP := Lib.hid HSP
      clear hoo hoo2 hokt hjp
      generalize Lib.join l [by_] = J at *
      go_wp2_with (first
        | (go_at_call 35; refine (HJ.out _ (below_alloc (Below.refl _ _) _)).out.mono ?_; rintro e w1 ⟨rfl, hb1⟩; have HB1 : Hid (Below wr.heap.size wr w1) := below_then (below_alloc (Below.refl _ _) _) hb1; clear hb1)
        | (go_at_call 31; refine (HSP.out _).out.mono ?_; rintro e w2 ⟨v2, rfl, ho2, hb2⟩; have HB2 : Hid (Below wr.heap.size wr w2) := HB1.out.trans ((below_then (below_alloc (below_alloc (Below.refl _ _) _) _) hb2).mono HB1.out.size); have HO2 := Lib.hid ho2; clear ho2 hb2)
        | (go_at_call 30; refine (HSM.out _ _ _ HO2.out HB2.out).mono ?_; rintro e w3 ⟨rfl, hb3⟩; have HB3 : Hid (Below wr.heap.size wr w3) := HB2.out.trans (hb3.mono HB2.out.size); clear hb3))
      go_ret
      exact ⟨rfl, HB.out.trans (HB3.out.mono hwz)⟩
end Go.Proofs.Ytkinjjgaecbogaa.fieldsJoin

