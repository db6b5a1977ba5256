/-
  The walk of layer 16 (pattern): the reference's Parse. Conditions: texts of at most 2^30 bytes.
-/
import Derived.Test.YtnecmpgcjgkheaaGreatPat17
set_option linter.unusedSimpArgs false
set_option linter.unusedVariables false
namespace Go.Proofs.YtnecmpgcjgkheaaGreat.Pat
open Go.ChangeShapes Go.WideShapes Go.Deep Go.RowKit
set_option maxRecDepth 100000
set_option maxHeartbeats 6400000 in
theorem parse_ref (p : List UInt8) (w : World) (hp : p.length ≤ 1073741824) : Calls Tryz.prog 31 #[.string (B p)] w (ParseP p w) := by
  obtain ⟨i6, hi6, hz60, hz61, hz62⟩ := info_parts info_atom
  go_enter Tryz.func31, Tryz.ntmps31
  go_wp2
  go_loopw [3, 4] (fun s3 i w' => ∃ (k : Nat) (v : Value) (pre : List At), k ≤ p.length ∧ v = s3 ∧ i = .int .i64 k ∧ Hid (RP p w w' v pre k)) (fun _ i _ => p.length - (intOf i).toNat)
  case atStart => exact ⟨0, _, [], by omega, rfl, rfl, ⟨Own.nil _ _ _, rfl, by simp, Below.refl _ _⟩⟩
  case round =>
    obtain ⟨k, v, pre, hk, rfl, rfl, HR⟩ := hrel
    by_cases hlt : k < p.length
    rotate_left
    · have HS := Lib.hid (HR.out.o.sl atC_len rfl)
      have h3 := HR.out.e
      rw [parseFrom_end (by omega), List.append_nil] at h3
      have H3 := Lib.hid h3
      have d0 := no hlt
      clear h3
      go_wp2
      go_ret
      exact ⟨_, rfl, by rw [H3.out]; exact HS.out, HR.out.b⟩
    have i0 : (0 : Int) ≤ (k : Int) := by omega
    have i1 : (k : Int) < (p.length : Int) := by omega
    have HX := Lib.hid (List.getElem?_eq_getElem hlt)
    have hpl := HR.out.l
    have hbs := HR.out.b.size
    have HB0 := Lib.hid HR.out.b
    by_cases h92 : p[k] = 92 ∧ k + 1 < p.length
    · obtain ⟨h92, h1⟩ := h92
      have e0 := is_b (n := 92) rfl h92
      have d1 : (k : Int) + 1 < (p.length : Int) := by omega
      have HA := Lib.hid (show atomAt p k p[k] = (.byte p[k + 1], k + 2) by unfold atomAt; rw [if_pos h92, List.getElem?_eq_getElem h1])
      clear h92
      go_wp2_with ((at_builtin; refine wpList_append_src _ rfl (.tmp 27) (.tmp 33) _ rfl w.heap.size 87 i6 _ 6 48 Tryz.underlying63 hi6 hz60 hz61 hz62 rfl (by decide) _ pre.length (pre.flatMap atC) rfl (HR.out.o.below (by (repeat (first | exact Below.refl _ _ | assumption | with_reducible refine below_alloc ?_ _ | with_reducible refine below_grow ?_ _ | with_reducible refine below_drewN ?_ _ | with_reducible refine below_drew ?_ | with_reducible refine below_setCell ?_ (by first | (dsimp only; omega) | (simp; done) | (simp; omega)) _)))) _ 1 [.int .i64 1, .int .u8 p[k + 1].toNat, .int .u64 0, .int .u64 0, .int .u64 0, .int .u64 0] rfl rfl (Src.one _ _ _ _) (by simp [Value.oneCell']) (by unfold maxLen; omega) (by omega) (by first | (simp; done) | omega | (simp; omega)) ?_; intro v1 w1 hown1 hg1 hat1 hty1; have HTY1 := Lib.hid hty1; clear hty1); have HW := Lib.hid (And.intro hown1 hg1); clear hown1 hg1 hat1)
      go_roundw
      case rel => exact ⟨k + 2, v1, _, by omega, rfl, by go_num, HR.out.more HX.out HA.out (atC_byte _) (below_then HB0.out (by (repeat (first | exact Below.refl _ _ | assumption | with_reducible refine below_alloc ?_ _ | with_reducible refine below_grow ?_ _ | with_reducible refine below_drewN ?_ _ | with_reducible refine below_drew ?_ | with_reducible refine below_setCell ?_ (by first | (dsimp only; omega) | (simp; done) | (simp; omega)) _)))) HW.out.1 HW.out.2⟩
      case measure => simp [intOf]; omega
    by_cases h91 : p[k] = 91 ∧ ∃ x, brAt p k = some x
    · obtain ⟨h, ⟨g, e⟩, hb⟩ := h91
      have e0 := not_b (c := p[k]) (k := 92) (n := 92) rfl (by rw [h]; decide)
      have e1 := is_b (n := 91) rfl h
      have HA := Lib.hid (show atomAt p k p[k] = (.set g, e) by unfold atomAt; rw [if_neg (by rw [h]; decide), if_neg (by rw [h]; decide), if_neg (by rw [h]; decide), if_pos h, hb])
      have hee := brAt_end hb
      have hsE : setE p k = e := by unfold setE; rw [hb]
      have HST : Hid (∀ w, Calls Tryz.prog 48 #[.string (B p), .int .i64 k, .int .u8 0] w (SetP p k 0 w)) := fun w => set_ref p k 0 w hp hlt
      have HSB : Hid (∀ b : UInt8, setB p k b = bitI (g b)) := fun b => by unfold setB; rw [hb]
      unfold SetP at HST
      rw [hsE] at HST
      have HSE := Lib.hid hsE
      have d2 : (0 : Int) < (e : Int) := by omega
      have d3 : 0 < e := by omega
      clear h hb h92 hsE
      go_wp2_with (go_at_call 48; refine (HST.out _).mono ?_; rintro e w' ⟨rfl, hb⟩; obtain ⟨gs, rfl⟩ := to_grow hb; have hgs : wr.heap.size ≤ (grow wr gs).heap.size := gs.2.size; clear hb)
      have HO1 := Lib.hid (HR.out.o.below (below_alloc (below_grow (Below.refl _ wr) gs) (.cells #[.int .i64 4, .int .u8 0, .int .u64 0, .int .u64 0, .int .u64 0, .int .u64 0] 87)))
      have HBX := Lib.hid (BoxN.new (grow wr gs) (atC (.set (uptoF g 0))) 87)
      rw [uptoF_zero, atC_set, word_zero, word_zero, word_zero, word_zero] at HBX
      have HB1 := Lib.hid (below_then HB0.out (below_alloc (below_grow (Below.refl _ wr) gs) (.cells #[.int .i64 4, .int .u8 0, .int .u64 0, .int .u64 0, .int .u64 0, .int .u64 0] 87)))
      have HVN : Hid (∀ i, v.ownBlock = some i → i ≠ (grow wr gs).heap.size) := fun i e => by have := HR.out.o.lt i e; omega
      have hab : w.heap.size ≤ (grow wr gs).heap.size := by omega
      generalize hwq : (grow wr gs).alloc (.cells #[.int .i64 4, .int .u8 0, .int .u64 0, .int .u64 0, .int .u64 0, .int .u64 0] 87) = wq at *
      generalize hae : (grow wr gs).heap.size = ab at *
      clear hwq hae hgs
      obtain ⟨wo, rfl⟩ : ∃ wo : World, wo = wr := ⟨_, rfl⟩
      go_loopw [8] (fun i w' => ∃ j : Nat, j ≤ 256 ∧ i = .int .i64 j ∧ Hid (BoxN w' ab (atC (.set (uptoF g j)))) ∧ Hid (Keeps (fun k => k = ab) wq w')) (fun i _ => 256 - (intOf i).toNat)
      case atStart => exact ⟨0, by omega, rfl, by show BoxN _ _ _; rw [uptoF_zero, atC_set, word_zero, word_zero, word_zero, word_zero]; exact HBX.out, Keeps.refl _ _⟩
      case round =>
        obtain ⟨j, hj, rfl, HBJ, HKJ⟩ := hrel
        by_cases hjl : j < 256
        · have hw := wrapb j hjl
          have HSJ := Lib.hid fun w => set_ref p k (UInt8.ofNat j) w hp hlt
          unfold SetP at HSJ
          rw [HSE.out, HSB.out] at HSJ
          have j0 : (0 : Int) ≤ (j : Int) := by omega
          have j2 : j < 256 := hjl
          cases hx : g (UInt8.ofNat j) with
          | true =>
            have HE := Lib.hid (uptoF_yes hjl hx)
            rw [hx] at HSJ
            have hor := orbit_j (uptoF g j) hjl
            have hsh := shl1 (j % 64) (by omega)
            have q1 : (0 : Int) ≤ (j : Int) / 64 := by omega
            have q2 : (j : Int) / 64 < 4 := by omega
            have q3 : j % 64 ≤ 64 := by omega
            clear hx
            go_wp2_with (go_at_call 48; refine (HSJ.out _).mono ?_; rintro e w' ⟨rfl, hb⟩; obtain ⟨gs, rfl⟩ := to_grow hb; have HBK := Lib.hid (HBJ.out.below hb); have HKK := Lib.hid (HKJ.out.trans (Keeps.of_below hb)); have hcl := abox_get HBK.out (j / 64) (by omega); have hcf := HBK.out.f; haveI : Old (grow wr gs) ab := ⟨HBK.out.lt⟩; clear hb)
            go_roundw
            case rel =>
              have hs := abox_step HBK.out hjl
              rw [HE.out] at hs
              exact ⟨j + 1, by omega, by go_num, by rw [← HE.out] at hs ⊢; exact hs, HKK.out.trans (Keeps.setCell (F := fun k => k = ab) _ (a := ⟨ab, 2 + j / 64, none⟩) rfl _)⟩
            case measure => simp [intOf]; omega
          | false =>
            have HE := Lib.hid (uptoF_no hjl hx)
            rw [hx] at HSJ
            clear hx
            go_wp2_with (go_at_call 48; refine (HSJ.out _).mono ?_; rintro e w' ⟨rfl, hb⟩; obtain ⟨gs, rfl⟩ := to_grow hb; have HBK := Lib.hid (HBJ.out.below hb); have HKK := Lib.hid (HKJ.out.trans (Keeps.of_below hb)); clear hb)
            go_roundw
            case rel => exact ⟨j + 1, by omega, by go_num, by show BoxN _ _ _; rw [← HE.out]; exact HBK.out, HKK.out⟩
            case measure => simp [intOf]; omega
        · have hj4 : j = 256 := by omega
          have hbj := HBJ.out
          rw [hj4, uptoF_all, atC_set] at hbj
          have b0 := hbj.c 0 _ rfl
          have b1 := hbj.c 1 _ rfl
          have b2 := hbj.c 2 _ rfl
          have b3 := hbj.c 3 _ rfl
          have b4 := hbj.c 4 _ rfl
          have b5 := hbj.c 5 _ rfl
          haveI : Old wr ab := ⟨hbj.lt⟩
          have HO2 := Lib.hid (HO1.out.keeps HKJ.out (fun i e _ hf => HVN.out i e hf))
          have HB2 := Lib.hid (below_keeps HB1.out HKJ.out (fun i hi => by omega))
          have hsz2 := HB2.out.size
          have dj := no (show ¬ (j : Int) < 256 by omega)
          clear hj4 hbj hjl
          go_wp2_with ((at_builtin; refine wpList_append_src _ rfl (.tmp 78) (.tmp 80) _ rfl w.heap.size 87 i6 _ 6 48 Tryz.underlying63 hi6 hz60 hz61 hz62 rfl (by decide) _ pre.length (pre.flatMap atC) rfl (HO2.out.below (by (repeat (first | exact Below.refl _ _ | assumption | with_reducible refine below_alloc ?_ _ | with_reducible refine below_grow ?_ _ | with_reducible refine below_drewN ?_ _ | with_reducible refine below_drew ?_ | with_reducible refine below_setCell ?_ (by first | (dsimp only; omega) | (simp; done) | (simp; omega)) _)))) _ 1 [.int .i64 4, .int .u8 0, .int .u64 (wordOf g 0 : Nat), .int .u64 (wordOf g 1 : Nat), .int .u64 (wordOf g 2 : Nat), .int .u64 (wordOf g 3 : Nat)] rfl rfl (Src.one _ _ _ _) (by simp [Value.oneCell']) (by unfold maxLen; omega) (by omega) (by first | (simp; done) | omega | (simp; omega)) ?_; intro v1 w1 hown1 hg1 hat1 hty1; have HTY1 := Lib.hid hty1; clear hty1); have HW := Lib.hid (And.intro hown1 hg1); clear hown1 hg1 hat1)
          go_roundw
          case rel => exact ⟨e, v1, _, by omega, rfl, rfl, HR.out.more HX.out HA.out (atC_set _) (below_then HB2.out (by (repeat (first | exact Below.refl _ _ | assumption | with_reducible refine below_alloc ?_ _ | with_reducible refine below_grow ?_ _ | with_reducible refine below_drewN ?_ _ | with_reducible refine below_drew ?_ | with_reducible refine below_setCell ?_ (by first | (dsimp only; omega) | (simp; done) | (simp; omega)) _)))) HW.out.1 HW.out.2⟩
          case measure => simp [intOf]; omega
    by_cases h : p[k] = 92
    · have hk1 : ¬ k + 1 < p.length := fun h2 => h92 ⟨h, h2⟩
      clear h92 h91
      have e0 := is_b (n := 92) rfl h
      have e1 := not_b (c := p[k]) (k := 91) (n := 91) rfl (by rw [h]; decide)
      have e2 := not_b (c := p[k]) (k := 63) (n := 63) rfl (by rw [h]; decide)
      have e3 := not_b (c := p[k]) (k := 42) (n := 42) rfl (by rw [h]; decide)
      have d1 := no (show ¬ (k : Int) + 1 < (p.length : Int) by omega)
      have HA := Lib.hid (show atomAt p k p[k] = (.byte p[k], k + 1) by unfold atomAt; rw [if_pos h, List.getElem?_eq_none (by omega)])
      clear h
      go_wp2_with ((at_builtin; refine wpList_append_src _ rfl (.tmp 97) (.tmp 99) _ rfl w.heap.size 87 i6 _ 6 48 Tryz.underlying63 hi6 hz60 hz61 hz62 rfl (by decide) _ pre.length (pre.flatMap atC) rfl (HR.out.o.below (by (repeat (first | exact Below.refl _ _ | assumption | with_reducible refine below_alloc ?_ _ | with_reducible refine below_grow ?_ _ | with_reducible refine below_drewN ?_ _ | with_reducible refine below_drew ?_ | with_reducible refine below_setCell ?_ (by first | (dsimp only; omega) | (simp; done) | (simp; omega)) _)))) _ 1 [.int .i64 1, .int .u8 p[k].toNat, .int .u64 0, .int .u64 0, .int .u64 0, .int .u64 0] rfl rfl (Src.oneAt _ _ _ _ _ (by simp)) (by simp [Value.oneCell']) (by unfold maxLen; omega) (by omega) (by first | (simp; done) | omega | (simp; omega)) ?_; intro v1 w1 hown1 hg1 hat1 hty1; have HTY1 := Lib.hid hty1; clear hty1); have HW := Lib.hid (And.intro hown1 hg1); clear hown1 hg1 hat1)
      go_roundw
      case rel => exact ⟨k + 1, v1, _, by omega, rfl, by go_num, HR.out.more HX.out HA.out (atC_byte _) (below_then HB0.out (by (repeat (first | exact Below.refl _ _ | assumption | with_reducible refine below_alloc ?_ _ | with_reducible refine below_grow ?_ _ | with_reducible refine below_drewN ?_ _ | with_reducible refine below_drew ?_ | with_reducible refine below_setCell ?_ (by first | (dsimp only; omega) | (simp; done) | (simp; omega)) _)))) HW.out.1 HW.out.2⟩
      case measure => simp [intOf]; omega
    by_cases h : p[k] = 63
    · clear h92 h91
      have e0 := not_b (c := p[k]) (k := 92) (n := 92) rfl (by rw [h]; decide)
      have e1 := not_b (c := p[k]) (k := 91) (n := 91) rfl (by rw [h]; decide)
      have e2 := is_b (n := 63) rfl h
      have e3 := not_b (c := p[k]) (k := 42) (n := 42) rfl (by rw [h]; decide)
      have HA := Lib.hid (show atomAt p k p[k] = (.one, k + 1) by unfold atomAt; rw [if_neg (by rw [h]; decide), if_pos h])
      clear h
      go_wp2_with ((at_builtin; refine wpList_append_src _ rfl (.tmp 97) (.tmp 99) _ rfl w.heap.size 87 i6 _ 6 48 Tryz.underlying63 hi6 hz60 hz61 hz62 rfl (by decide) _ pre.length (pre.flatMap atC) rfl (HR.out.o.below (by (repeat (first | exact Below.refl _ _ | assumption | with_reducible refine below_alloc ?_ _ | with_reducible refine below_grow ?_ _ | with_reducible refine below_drewN ?_ _ | with_reducible refine below_drew ?_ | with_reducible refine below_setCell ?_ (by first | (dsimp only; omega) | (simp; done) | (simp; omega)) _)))) _ 1 [.int .i64 2, .int .u8 0, .int .u64 0, .int .u64 0, .int .u64 0, .int .u64 0] rfl rfl (Src.oneAt _ _ _ _ _ (by simp)) (by simp [Value.oneCell']) (by unfold maxLen; omega) (by omega) (by first | (simp; done) | omega | (simp; omega)) ?_; intro v1 w1 hown1 hg1 hat1 hty1; have HTY1 := Lib.hid hty1; clear hty1); have HW := Lib.hid (And.intro hown1 hg1); clear hown1 hg1 hat1)
      go_roundw
      case rel => exact ⟨k + 1, v1, _, by omega, rfl, by go_num, HR.out.more HX.out HA.out atC_one' (below_then HB0.out (by (repeat (first | exact Below.refl _ _ | assumption | with_reducible refine below_alloc ?_ _ | with_reducible refine below_grow ?_ _ | with_reducible refine below_drewN ?_ _ | with_reducible refine below_drew ?_ | with_reducible refine below_setCell ?_ (by first | (dsimp only; omega) | (simp; done) | (simp; omega)) _)))) HW.out.1 HW.out.2⟩
      case measure => simp [intOf]; omega
    by_cases h : p[k] = 42
    · clear h92 h91
      have e0 := not_b (c := p[k]) (k := 92) (n := 92) rfl (by rw [h]; decide)
      have e1 := not_b (c := p[k]) (k := 91) (n := 91) rfl (by rw [h]; decide)
      have e2 := not_b (c := p[k]) (k := 63) (n := 63) rfl (by rw [h]; decide)
      have e3 := is_b (n := 42) rfl h
      have HA := Lib.hid (show atomAt p k p[k] = (.many, k + 1) by unfold atomAt; rw [if_neg (by rw [h]; decide), if_neg (by rw [h]; decide), if_pos h])
      clear h
      go_wp2_with ((at_builtin; refine wpList_append_src _ rfl (.tmp 97) (.tmp 99) _ rfl w.heap.size 87 i6 _ 6 48 Tryz.underlying63 hi6 hz60 hz61 hz62 rfl (by decide) _ pre.length (pre.flatMap atC) rfl (HR.out.o.below (by (repeat (first | exact Below.refl _ _ | assumption | with_reducible refine below_alloc ?_ _ | with_reducible refine below_grow ?_ _ | with_reducible refine below_drewN ?_ _ | with_reducible refine below_drew ?_ | with_reducible refine below_setCell ?_ (by first | (dsimp only; omega) | (simp; done) | (simp; omega)) _)))) _ 1 [.int .i64 3, .int .u8 0, .int .u64 0, .int .u64 0, .int .u64 0, .int .u64 0] rfl rfl (Src.oneAt _ _ _ _ _ (by simp)) (by simp [Value.oneCell']) (by unfold maxLen; omega) (by omega) (by first | (simp; done) | omega | (simp; omega)) ?_; intro v1 w1 hown1 hg1 hat1 hty1; have HTY1 := Lib.hid hty1; clear hty1); have HW := Lib.hid (And.intro hown1 hg1); clear hown1 hg1 hat1)
      go_roundw
      case rel => exact ⟨k + 1, v1, _, by omega, rfl, by go_num, HR.out.more HX.out HA.out atC_many (below_then HB0.out (by (repeat (first | exact Below.refl _ _ | assumption | with_reducible refine below_alloc ?_ _ | with_reducible refine below_grow ?_ _ | with_reducible refine below_drewN ?_ _ | with_reducible refine below_drew ?_ | with_reducible refine below_setCell ?_ (by first | (dsimp only; omega) | (simp; done) | (simp; omega)) _)))) HW.out.1 HW.out.2⟩
      case measure => simp [intOf]; omega
    by_cases h : p[k] = 91
    · clear h92
      have e0 := not_b (c := p[k]) (k := 92) (n := 92) rfl (by rw [h]; decide)
      have e1 := is_b (n := 91) rfl h
      have e2 := not_b (c := p[k]) (k := 63) (n := 63) rfl (by rw [h]; decide)
      have e3 := not_b (c := p[k]) (k := 42) (n := 42) rfl (by rw [h]; decide)
      have hb : brAt p k = none := by
        cases hb : brAt p k with
        | none => rfl
        | some x => exact absurd ⟨h, x, hb⟩ h91
      have HST : Hid (∀ w, Calls Tryz.prog 48 #[.string (B p), .int .i64 k, .int .u8 0] w (SetP p k 0 w)) := fun w => set_ref p k 0 w hp hlt
      unfold SetP at HST
      rw [show setB p k 0 = 0 by unfold setB; rw [hb], show setE p k = -1 by unfold setE; rw [hb]] at HST
      clear h91
      have HA := Lib.hid (show atomAt p k p[k] = (.byte p[k], k + 1) by unfold atomAt; rw [if_neg (by rw [h]; decide), if_neg (by rw [h]; decide), if_neg (by rw [h]; decide), if_pos h, hb])
      clear h hb
      go_wp2_with (first | (go_at_call 48; refine (HST.out _).mono ?_; rintro e w' ⟨rfl, hb⟩; obtain ⟨gs, rfl⟩ := to_grow hb; have hgs : wr.heap.size ≤ (grow wr gs).heap.size := gs.2.size; clear hb) | ((at_builtin; refine wpList_append_src _ rfl (.tmp 97) (.tmp 99) _ rfl w.heap.size 87 i6 _ 6 48 Tryz.underlying63 hi6 hz60 hz61 hz62 rfl (by decide) _ pre.length (pre.flatMap atC) rfl (HR.out.o.below (by (repeat (first | exact Below.refl _ _ | assumption | with_reducible refine below_alloc ?_ _ | with_reducible refine below_grow ?_ _ | with_reducible refine below_drewN ?_ _ | with_reducible refine below_drew ?_ | with_reducible refine below_setCell ?_ (by first | (dsimp only; omega) | (simp; done) | (simp; omega)) _)))) _ 1 [.int .i64 1, .int .u8 p[k].toNat, .int .u64 0, .int .u64 0, .int .u64 0, .int .u64 0] rfl rfl (Src.oneAt _ _ _ _ _ (by simp)) (by simp [Value.oneCell']) (by unfold maxLen; omega) (by omega) (by first | (simp; done) | omega | (simp; omega)) ?_; intro v1 w1 hown1 hg1 hat1 hty1; have HTY1 := Lib.hid hty1; clear hty1); have HW := Lib.hid (And.intro hown1 hg1); clear hown1 hg1 hat1))
      go_roundw
      case rel => exact ⟨k + 1, v1, _, by omega, rfl, by go_num, HR.out.more HX.out HA.out (atC_byte _) (below_then HB0.out (by (repeat (first | exact Below.refl _ _ | assumption | with_reducible refine below_alloc ?_ _ | with_reducible refine below_grow ?_ _ | with_reducible refine below_drewN ?_ _ | with_reducible refine below_drew ?_ | with_reducible refine below_setCell ?_ (by first | (dsimp only; omega) | (simp; done) | (simp; omega)) _)))) HW.out.1 HW.out.2⟩
      case measure => simp [intOf]; omega
    rename_i n92 n63 n42
    have n91 := h
    clear h h92 h91
    have e0 := not_b (n := 92) rfl n92
    have e1 := not_b (n := 91) rfl n91
    have e2 := not_b (n := 63) rfl n63
    have e3 := not_b (n := 42) rfl n42
    have HA := Lib.hid (show atomAt p k p[k] = (.byte p[k], k + 1) by unfold atomAt; rw [if_neg n92, if_neg n63, if_neg n42, if_neg n91])
    clear n92 n91 n63 n42
    go_wp2_with ((at_builtin; refine wpList_append_src _ rfl (.tmp 97) (.tmp 99) _ rfl w.heap.size 87 i6 _ 6 48 Tryz.underlying63 hi6 hz60 hz61 hz62 rfl (by decide) _ pre.length (pre.flatMap atC) rfl (HR.out.o.below (by (repeat (first | exact Below.refl _ _ | assumption | with_reducible refine below_alloc ?_ _ | with_reducible refine below_grow ?_ _ | with_reducible refine below_drewN ?_ _ | with_reducible refine below_drew ?_ | with_reducible refine below_setCell ?_ (by first | (dsimp only; omega) | (simp; done) | (simp; omega)) _)))) _ 1 [.int .i64 1, .int .u8 p[k].toNat, .int .u64 0, .int .u64 0, .int .u64 0, .int .u64 0] rfl rfl (Src.oneAt _ _ _ _ _ (by simp)) (by simp [Value.oneCell']) (by unfold maxLen; omega) (by omega) (by first | (simp; done) | omega | (simp; omega)) ?_; intro v1 w1 hown1 hg1 hat1 hty1; have HTY1 := Lib.hid hty1; clear hty1); have HW := Lib.hid (And.intro hown1 hg1); clear hown1 hg1 hat1)
    go_roundw
    case rel => exact ⟨k + 1, v1, _, by omega, rfl, by go_num, HR.out.more HX.out HA.out (atC_byte _) (below_then HB0.out (by (repeat (first | exact Below.refl _ _ | assumption | with_reducible refine below_alloc ?_ _ | with_reducible refine below_grow ?_ _ | with_reducible refine below_drewN ?_ _ | with_reducible refine below_drew ?_ | with_reducible refine below_setCell ?_ (by first | (dsimp only; omega) | (simp; done) | (simp; omega)) _)))) HW.out.1 HW.out.2⟩
    case measure => simp [intOf]; omega
end Go.Proofs.YtnecmpgcjgkheaaGreat.Pat
