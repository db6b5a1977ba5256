/-
  The walks of layer 17 (quoting): the forms of a text, the shortest one. Conditions: texts of at most 2^30 bytes; the library's variable MaxLen holds some number.
-/
import Derived.Test.YtadlaaddpobhbaaDoorQuo2
import Derived.Lib.SplitLaws
namespace Go.Proofs.YtadlaaddpobhbaaDoor.Quo
open Go.ChangeShapes Go.WideShapes Go.Deep Go.RowKit Cls Bd Pat
set_option maxRecDepth 100000
theorem single_any (s : List UInt8) (w : World) (hm : MaxL w) (hs : s.length ≤ 1073741824) : Calls Tryd.prog 22 #[.string (B s)] w fun e w' => e = .returned (.string (B (sglL s))) ∧ Below w.heap.size w w' := by
  obtain ⟨m, hm⟩ := hm
  have hc := Lib.countB_le (B [39]) (by rw [B_size]; simp) (B s).size (B s) (Nat.le_refl _)
  have hR := Tryd.strings_ReplaceAll (B s) (B [39]) (B [39, 92, 39, 39]) m w (by rw [B_size]; omega) hm (by rw [B_size]; simp) (by rw [B_size] at hc ⊢; rw [B_size]; simp; omega)
  rw [B_data, B_data, B_data, replaceAll_one 39 _ s (by decide)] at hR
  have HR := Lib.hid hR
  clear hR hc
  have HE : Hid (sglL s = 39 :: s.flatMap fun b => if b = 39 then [39, 92, 39, 39] else [b]) := rfl
  rw [HE.out]
  have hl := flat_len (f := fun b => if b = 39 then [39, 92, 39, 39] else [b]) (m := 4) (by intro b; split <;> simp) s
  have hl2 : (s.flatMap fun b => if b = 39 then [39, 92, 39, 39] else [b]).length ≤ 4294967296 := by omega
  clear hl
  generalize (s.flatMap fun b => if b = 39 then [39, 92, 39, 39] else [b]) = t at *
  go_enter Tryd.func22, Tryd.ntmps22
  go_wp2_with (go_at_call 45; refine HR.out.mono ?_; rintro e w1 ⟨rfl, hb⟩; have HB := Lib.hid hb; clear hb)
  go_ret
  exact ⟨rfl, HB.out⟩
/-- What holds at each round of plain's loop. -/
def PlnI (s : List UInt8) (w : World) (i : Value) (wr : World) : Prop := ∃ (k : Nat) (v : Value), k ≤ s.length ∧ i = .int .i64 k ∧ Hid (Bld wr w.heap.size w.heap.size v (plnK s k)) ∧ Hid (Below w.heap.size w wr)
theorem PlnI.mk {s : List UInt8} {w wr : World} {i : Value} {v : Value} {l : List UInt8} (k : Nat) (h1 : k ≤ s.length) (h2 : i = .int .i64 k) (he : plnK s k = l) (h3 : Bld wr w.heap.size w.heap.size v l) (h4 : Below w.heap.size w wr) : PlnI s w i wr := ⟨k, v, h1, h2, by rw [he]; exact h3, h4⟩
set_option maxHeartbeats 4000000 in
theorem plain_any (s : List UInt8) (w : World) (hs : s.length ≤ 1073741824) : Calls Tryd.prog 21 #[.string (B s)] w fun e w' => e = .returned (.string (B (plnL s))) ∧ Below w.heap.size w w' := by
  by_cases h0 : s = []
  · subst h0
    go_enter Tryd.func21, Tryd.ntmps21
    go_wp2
    go_ret
    exact ⟨rfl, Below.refl _ _⟩
  have e0 : (s == []) = false := by simpa using h0
  have HK := Lib.hid (plnK_all h0)
  have HRI := Lib.hid fun w => risky_any s w hs
  clear h0
  go_enter Tryd.func21, Tryd.ntmps21
  go_wp2
  clear e0
  rw [show ({ data := #[] } : ByteArray) = B [] from rfl]
  go_loopw [4, 9] (fun _ i wr => PlnI s w i wr) (fun _ i _ => s.length - (intOf i).toNat)
  case atStart => exact PlnI.mk 0 (by omega) rfl rfl (Bld.new w _) (below_alloc (Below.refl _ _) _)
  case round =>
    obtain ⟨k, v, hk, rfl, HB, HW⟩ := hrel
    have hsz := HW.out.size
    have hlen := plnK_len s k hk
    by_cases hlt : k < s.length
    · have hi0 : (0 : Int) ≤ (k : Int) := by omega
      have hi1 : (k : Int) < (s.length : Int) := by omega
      have HSA := Lib.hid (plnK_A hlt)
      have HSB := Lib.hid (plnK_B hlt)
      have HSC := Lib.hid (plnK_C hlt)
      have HSD := Lib.hid (plnK_D hlt)
      have HX := Lib.hid fun (W : World) (v : Value) (l : List UInt8) (h : Bld W w.heap.size w.heap.size v l) (hl : l.length + 1 ≤ 70368744177664) (hR : w.heap.size ≤ W.heap.size) => wbyte_any s[k] h hl hR
      have HY := Lib.hid fun (W : World) (v : Value) (l : List UInt8) (h : Bld W w.heap.size w.heap.size v l) (hl : l.length + 1 ≤ 70368744177664) (hR : w.heap.size ≤ W.heap.size) => wbyte_num 92 (n := 92) rfl h hl hR
      have HZ := Lib.hid fun (W : World) (v : Value) (l : List UInt8) (h : Bld W w.heap.size w.heap.size v l) (hl : l.length + 3 ≤ 70368744177664) (hR : w.heap.size ≤ W.heap.size) => wstr_any (s := [39, 10, 39]) h hl hR
      have HS := Lib.hid fun W => safe_any s[k] W
      cases hsf : safeB s[k] with
      | false =>
        rw [hsf] at HS HSB
        have HSB2 := Lib.hid fun h => HSB.out h rfl
        clear hsf HSC HSD HRI HSB
        go_wp2_with (first
          | (go_at_call 42; refine (HS.out _).mono ?_; rintro e w' ⟨rfl, rfl⟩)
          | (go_at_call 36; (with_reducible refine (HZ.out _ _ _ HB.out (by omega) hsz).mono ?_); rintro e w3 ⟨rfl, v3, h3, hk3⟩; have HB3 := Lib.hid h3; have hw3 := HW.out.trans (hk3.below hsz (fun k hk => by omega)); have HW3 := Lib.hid hw3; clear h3 hk3 hw3)
          | (go_at_call 44; (with_reducible refine (HY.out _ _ _ HB.out (by omega) hsz).mono ?_); rintro e w2 ⟨rfl, v2, h2, hk2⟩; have HB2 := Lib.hid h2; have hw2 := HW.out.trans (hk2.below hsz (fun k hk => by omega)); have HW2 := Lib.hid hw2; have hsz2 := hw2.size; clear h2 hk2 hw2 HY)
          | (go_at_call 44; (with_reducible refine (HX.out _ _ _ HB2.out (by rw [List.length_append]; simp; omega) hsz2).mono ?_); rintro e w3 ⟨rfl, v3, h3, hk3⟩; have HB3 := Lib.hid h3; have hw3 := HW2.out.trans (hk3.below hsz2 (fun k hk => by omega)); have HW3 := Lib.hid hw3; clear h3 hk3 hw3))
        all_goals
          go_roundw
          case rel => exact PlnI.mk (s := s) (w := w) (k + 1) (by omega) (by go_num) (by first | exact HSA.out (by simp [*]) | exact HSB2.out (by simp [*])) HB3.out HW3.out
          case measure => simp [intOf]; omega
      | true =>
        rw [hsf] at HS HSC HSD
        clear hsf HSB
        by_cases hk0 : k = 0
        · have k0 : ((k : Int) == 0) = true := by simp [hk0]
          cases hri : riskB s with
          | true =>
            rw [hri] at HRI HSC
            have HSC2 := Lib.hid fun h => HSC.out h rfl hk0 rfl
            clear hri HSD HSC hk0
            go_wp2_with (first
              | (go_at_call 42; refine (HS.out _).mono ?_; rintro e w' ⟨rfl, rfl⟩)
              | (go_at_call 43; refine (HRI.out _).mono ?_; rintro e w' ⟨rfl, rfl⟩)
              | (go_at_call 36; (with_reducible refine (HZ.out _ _ _ HB.out (by omega) hsz).mono ?_); rintro e w3 ⟨rfl, v3, h3, hk3⟩; have HB3 := Lib.hid h3; have hw3 := HW.out.trans (hk3.below hsz (fun k hk => by omega)); have HW3 := Lib.hid hw3; clear h3 hk3 hw3)
              | (go_at_call 44; (with_reducible refine (HY.out _ _ _ HB.out (by omega) hsz).mono ?_); rintro e w2 ⟨rfl, v2, h2, hk2⟩; have HB2 := Lib.hid h2; have hw2 := HW.out.trans (hk2.below hsz (fun k hk => by omega)); have HW2 := Lib.hid hw2; have hsz2 := hw2.size; clear h2 hk2 hw2 HY)
              | (go_at_call 44; (with_reducible refine (HX.out _ _ _ HB2.out (by rw [List.length_append]; simp; omega) hsz2).mono ?_); rintro e w3 ⟨rfl, v3, h3, hk3⟩; have HB3 := Lib.hid h3; have hw3 := HW2.out.trans (hk3.below hsz2 (fun k hk => by omega)); have HW3 := Lib.hid hw3; clear h3 hk3 hw3))
            all_goals
              go_roundw
              case rel => exact PlnI.mk (s := s) (w := w) (k + 1) (by omega) (by go_num) (by first | exact HSA.out (by simp [*]) | exact HSC2.out (by simp [*])) HB3.out HW3.out
              case measure => simp [intOf]; omega
          | false =>
            rw [hri] at HRI HSD
            have HSD2 := Lib.hid fun h => HSD.out h rfl (fun _ => rfl)
            clear hri HSD HSC hk0
            go_wp2_with (first
              | (go_at_call 42; refine (HS.out _).mono ?_; rintro e w' ⟨rfl, rfl⟩)
              | (go_at_call 43; refine (HRI.out _).mono ?_; rintro e w' ⟨rfl, rfl⟩)
              | (go_at_call 36; (with_reducible refine (HZ.out _ _ _ HB.out (by omega) hsz).mono ?_); rintro e w3 ⟨rfl, v3, h3, hk3⟩; have HB3 := Lib.hid h3; have hw3 := HW.out.trans (hk3.below hsz (fun k hk => by omega)); have HW3 := Lib.hid hw3; clear h3 hk3 hw3)
              | (go_at_call 44; (with_reducible refine (HX.out _ _ _ HB.out (by omega) hsz).mono ?_); rintro e w3 ⟨rfl, v3, h3, hk3⟩; have HB3 := Lib.hid h3; have hw3 := HW.out.trans (hk3.below hsz (fun k hk => by omega)); have HW3 := Lib.hid hw3; clear h3 hk3 hw3))
            all_goals
              go_roundw
              case rel => exact PlnI.mk (s := s) (w := w) (k + 1) (by omega) (by go_num) (by first | exact HSA.out (by simp [*]) | exact HSD2.out (by simp [*])) HB3.out HW3.out
              case measure => simp [intOf]; omega
        · have k0 : ((k : Int) == 0) = false := by simp [hk0]
          have HSD2 := Lib.hid fun h => HSD.out h rfl (fun h2 => absurd h2 hk0)
          clear HSD HSC hk0
          go_wp2_with (first
            | (go_at_call 42; refine (HS.out _).mono ?_; rintro e w' ⟨rfl, rfl⟩)
            | (go_at_call 36; (with_reducible refine (HZ.out _ _ _ HB.out (by omega) hsz).mono ?_); rintro e w3 ⟨rfl, v3, h3, hk3⟩; have HB3 := Lib.hid h3; have hw3 := HW.out.trans (hk3.below hsz (fun k hk => by omega)); have HW3 := Lib.hid hw3; clear h3 hk3 hw3)
            | (go_at_call 44; (with_reducible refine (HX.out _ _ _ HB.out (by omega) hsz).mono ?_); rintro e w3 ⟨rfl, v3, h3, hk3⟩; have HB3 := Lib.hid h3; have hw3 := HW.out.trans (hk3.below hsz (fun k hk => by omega)); have HW3 := Lib.hid hw3; clear h3 hk3 hw3))
          all_goals
            go_roundw
            case rel => exact PlnI.mk (s := s) (w := w) (k + 1) (by omega) (by go_num) (by first | exact HSA.out (by simp [*]) | exact HSD2.out (by simp [*])) HB3.out HW3.out
            case measure => simp [intOf]; omega
    · have hk' : k = s.length := by omega
      subst hk'
      rw [HK.out] at HB
      have HST := Lib.hid (bstr_any HB.out (Nat.le_refl _) (Nat.le_refl _))
      clear hlt
      go_wp2_with (go_at_call 37; refine HST.out.mono ?_; rintro e w2 ⟨rfl, hb⟩; have HW2 := Lib.hid (HW.out.trans hb); clear hb)
      go_ret
      exact ⟨rfl, HW2.out⟩
theorem encode_any (s : List UInt8) (state : Int) (closed : Bool) (w : World) (hm : MaxL w) (hs : s.length ≤ 1073741824) : Calls Tryd.prog 10 #[.string (B s), .int .i64 state, .bool closed] w fun e w' => e = .returned (.string (B (encL s state closed))) ∧ Below w.heap.size w w' := by
  have HP := Lib.hid (plain_any s w hs)
  have HS := Lib.hid fun W (hb : Below w.heap.size w W) => single_any s W (hm.below hb) hs
  have HD := Lib.hid fun W => double_any s W hs
  have HE := Lib.hid (show encL s state closed = if state = 4 then sglL s ++ endL closed 39 else if state = 5 then dblL s ++ endL closed 34 else plnL s from rfl)
  unfold endL at HE
  have la := sglL_len s
  have lb := dblL_len s
  have lc := plnL_len s
  generalize encL s state closed = r at *
  generalize sglL s = a at *
  generalize dblL s = b at *
  generalize plnL s = c at *
  go_enter Tryd.func10, Tryd.ntmps10
  go_wp2_with (first
    | (go_at_call 21; refine HP.out.mono ?_; rintro e w1 ⟨rfl, hb⟩; have HB := Lib.hid hb; clear hb)
    | (go_at_call 22; refine (HS.out _ HB.out).mono ?_; rintro e w2 ⟨rfl, hb⟩; have HB2 := Lib.hid (below_then HB.out hb); clear hb)
    | (go_at_call 23; refine (HD.out _).mono ?_; rintro e w2 ⟨rfl, hb⟩; have HB2 := Lib.hid (below_then HB.out hb); clear hb))
  all_goals
    go_ret
    first
      | exact ⟨by rw [HE.out]; simp_all, HB2.out⟩
      | exact ⟨by rw [HE.out]; simp_all, HB.out⟩
theorem info_int : (Tryd.prog.info? 3).map (fun i => (i.zero, i.size, i.bytes)) = some (some (.int .i64 0), 1, 8) := by kernel_rfl
set_option maxHeartbeats 2000000 in
theorem shortest_any (s : List UInt8) (w : World) (hm : MaxL w) (hs : s.length ≤ 1073741824) : Calls Tryd.prog 12 #[.string (B s)] w fun e w' => e = .returned (.string (B (shortL s))) ∧ Below w.heap.size w w' := by
  have HE := Lib.hid fun st W (hb : Below w.heap.size w W) => encode_any s st true W (hm.below hb) hs
  go_enter Tryd.func12, Tryd.ntmps12
  go_wp2
  go_step3
  go_wp2
  go_step3
  go_wp2
  rw [show ({ data := #[] } : ByteArray) = B [] from rfl]
  go_loopw [3, 5, 6, 9] (fun best _ _ i wr => ∃ k : Nat, k ≤ 3 ∧ i = .int .i64 k ∧ best = .string (B (shortK s k)) ∧ Hid (Below (w.heap.size + 1) (w.alloc (.cells #[.int .i64 0, .int .i64 4, .int .i64 5] 3)) wr)) (fun _ _ _ i _ => 3 - (intOf i).toNat)
  case atStart => exact ⟨0, by omega, rfl, rfl, Below.refl _ _⟩
  case round =>
    obtain ⟨k, hk, rfl, rfl, HW⟩ := hrel
    have hcell : ∀ (j : Nat) v, [Value.int .i64 0, .int .i64 4, .int .i64 5][j]? = some v → wr.cell? ⟨w.heap.size, j, none⟩ = some v := fun j v hj => by
      rw [HW.out.cell (p := ⟨w.heap.size, j, none⟩) (by simp)]
      have hh := heap_alloc_new w (.cells #[.int .i64 0, .int .i64 4, .int .i64 5] 3)
      unfold World.cell?
      simp only [hh]
      simpa using hj
    have hbw : Below w.heap.size w wr := (below_alloc (Below.refl _ _) _).trans (HW.out.mono (by omega))
    have HB := Lib.hid hbw
    match k, hk with
    | 0, _ =>
      have c0 := hcell 0 _ rfl
      have HEE := Lib.hid (HE.out 0 _ hbw)
      have h0 : shortK s 0 = [] := rfl
      rw [h0]
      clear hcell hbw h0
      go_wp2_with (go_at_call 10; refine HEE.out.mono ?_; rintro e w2 ⟨rfl, hb⟩; have HB2 := Lib.hid (HW.out.trans (hb.mono (by have := HW.out.size; simp at this; omega))); clear hb)
      go_roundw
      case rel => exact ⟨1, by omega, by go_num, rfl, HB2.out⟩
      case measure => simp [intOf]
    | 1, _ =>
      have c0 := hcell 1 _ rfl
      have HEE := Lib.hid (HE.out 4 _ hbw)
      have h1 : shortK s 1 = encL s 0 true := rfl
      have h2 : ∀ x, x = shorter (encL s 0 true) (encL s 4 true) → Value.string (B x) = .string (B (shortK s 2)) := fun x h => by rw [h]; rfl
      have HN := encL_ne s 0 true
      have HN2 : (!(encL s 0 true).isEmpty) = true := by simpa using HN
      have H2 := Lib.hid h2
      rw [h1]
      clear hcell hbw h1 h2
      generalize encL s 0 true = a at *
      generalize encL s 4 true = b at *
      go_wp2_with (go_at_call 10; refine HEE.out.mono ?_; rintro e w2 ⟨rfl, hb⟩; have HB2 := Lib.hid (HW.out.trans (hb.mono (by have := HW.out.size; simp at this; omega))); clear hb)
      all_goals
        go_roundw
        case rel => exact ⟨2, by omega, by go_num, H2.out _ (by unfold shorter; first | rw [if_neg (by omega)] | rw [if_pos (by omega)]), HB2.out⟩
        case measure => simp [intOf]
    | 2, _ =>
      have c0 := hcell 2 _ rfl
      have HEE := Lib.hid (HE.out 5 _ hbw)
      have h1 : shortK s 2 = shorter (encL s 0 true) (encL s 4 true) := rfl
      have h2 : ∀ x, x = shorter (shorter (encL s 0 true) (encL s 4 true)) (encL s 5 true) → Value.string (B x) = .string (B (shortK s 3)) := fun x h => by rw [h]; rfl
      have HN := shorter_ne (encL_ne s 0 true) (encL_ne s 4 true)
      have HN2 : (!(shorter (encL s 0 true) (encL s 4 true)).isEmpty) = true := by simpa using HN
      have H2 := Lib.hid h2
      rw [h1]
      clear hcell hbw h1 h2
      generalize shorter (encL s 0 true) (encL s 4 true) = a at *
      generalize encL s 5 true = b at *
      go_wp2_with (go_at_call 10; refine HEE.out.mono ?_; rintro e w2 ⟨rfl, hb⟩; have HB2 := Lib.hid (HW.out.trans (hb.mono (by have := HW.out.size; simp at this; omega))); clear hb)
      all_goals
        go_roundw
        case rel => exact ⟨3, by omega, by go_num, H2.out _ (by unfold shorter; first | rw [if_neg (by omega)] | rw [if_pos (by omega)]), HB2.out⟩
        case measure => simp [intOf]
    | 3, _ =>
      have h1 : shortK s 3 = shortL s := rfl
      rw [h1]
      clear hcell
      go_wp2
      rw [Exit.noGoto_ret]
      go_ret
      exact ⟨rfl, HB.out⟩
end Go.Proofs.YtadlaaddpobhbaaDoor.Quo
