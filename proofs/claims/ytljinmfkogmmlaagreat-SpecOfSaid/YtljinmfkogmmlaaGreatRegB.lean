/-
  Layer 20's registry, on: Remove, Names, For, Of; the reference's Get, Remove, Set, For. Conditions: each theorem's own.
-/
import Derived.Test.YtljinmfkogmmlaaGreatRegA
import Derived.Test.YtljinmfkogmmlaaGreatRunA
import Derived.Lib.SliceRun
import Derived.Lib.LastIndexByte
/-
  The walk of slices.Delete of one name with its spec. Conditions: rows of at most 2^20 names.
-/
namespace Go.Proofs.YtljinmfkogmmlaaGreat.Spc
open Go.ChangeShapes Go.WideShapes Go.Deep Go.RowKit InsN
set_option linter.unusedSimpArgs false
set_option linter.unusedVariables false
set_option maxRecDepth 100000
end Go.Proofs.YtljinmfkogmmlaaGreat.Spc
/-
  The walk of layer 20's registry, on: Remove. Conditions: at most 2^20 names.
-/
namespace Go.Proofs.YtljinmfkogmmlaaGreat.Spc
open Go.ChangeShapes Go.WideShapes Go.Deep Go.RowKit Tab Mc Pa Quo
set_option linter.unusedSimpArgs false
set_option linter.unusedVariables false
set_option maxRecDepth 100000
end Go.Proofs.YtljinmfkogmmlaaGreat.Spc
/-
  The walk of layer 20's registry, on: Names. Conditions: at most 2^20 names.
-/
namespace Go.Proofs.YtljinmfkogmmlaaGreat.Spc
open Go.ChangeShapes Go.WideShapes Go.Deep Go.RowKit Tab Mc Pa Quo
set_option linter.unusedSimpArgs false
set_option linter.unusedVariables false
set_option maxRecDepth 100000
def NamesP (ns : List (List UInt8)) (w : World) (e : Ending) (w' : World) : Prop := ∃ v, e = .returned v ∧ Own w' w.heap.size 1 v ns.length (ns.flatMap strC) ∧ Below w.heap.size w w'
set_option maxHeartbeats 1600000 in
theorem names20_any (w : World) (A N rb : Nat) (v : Value) (xs : List Nm) (h : RegAt w A N rb v xs) (hx : xs.length ≤ 1048576) :
    Calls Tryz.prog 18 #[.pointer (some ⟨rb, 0, none⟩)] w (NamesP (xs.map Nm.n) w) := by
  obtain ⟨i0, hi0, hz00, hz01, hz02⟩ := info_parts info_str
  obtain ⟨A1, c1, rfl, hA1⟩ := h.o.form0
  have HA := Lib.hid hA1
  have c0 := h.bx.c 0 _ rfl
  haveI : Old w rb := ⟨h.bx.lt⟩
  have H := Lib.hid h
  clear h hA1
  go_enter Tryz.func18, Tryz.ntmps18
  go_wp2_with (at_make; refine wpList_make_own _ rfl _ _ 24 rfl w.heap.size 9 i0 (.string ByteArray.empty) 1 Tryz.underlying24 hi0 hz00 hz01 .i64 .i64 _ xs.length rfl rfl rfl (by rw [hz02]; omega) (by unfold maxLen; omega) (Nat.le_refl _) ?_; intro w0 hown0 hgrow0; have HO0 := Lib.hid (Own.of_row hown0 (Nat.le_refl _)); have HB0 : Hid (Below w.heap.size w w0) := ⟨hgrow0.os, hgrow0.tape, hgrow0.output, hgrow0.size, fun k hk => hgrow0.block k hk (fun e => by cases e)⟩; have q0 := (H.out.below HB0.out).bx.c 0 _ rfl; haveI : Old w0 rb := ⟨(H.out.below HB0.out).bx.lt⟩; clear hown0 hgrow0)
  go_loopw [3, 17] (fun o1 i wr => ∃ (k : Nat) (o : Value), k ≤ xs.length ∧ o = o1 ∧ i = .int .i64 k ∧ Hid (Own wr w.heap.size 1 o k (((xs.take k).map Nm.n).flatMap strC)) ∧ Hid (Below w.heap.size w wr)) (fun _ i _ => xs.length - (intOf i).toNat)
  case atStart => exact ⟨0, _, by omega, rfl, rfl, HO0.out, HB0.out⟩
  case round =>
    obtain ⟨k, o, hk, rfl, rfl, HO, HB⟩ := hrel
    clear HO0 HB0
    have hwz := HB.out.size
    by_cases hlt : k < xs.length
    · obtain ⟨g, off, rfl⟩ := HA.out (by omega)
      obtain ⟨x, hxm⟩ := get_some hlt
      obtain ⟨e0, e1, e2, e3, e4, e5, e6, hg⟩ := own_nam (H.out.o.below HB.out) hxm
      haveI : Old wr g := ⟨hg⟩
      have k0 : (0 : Int) ≤ (k : Int) := by omega
      have k1 : (k : Int) < (xs.length : Int) := by omega
      have HT := Lib.hid (show ((xs.take (k + 1)).map Nm.n).flatMap strC = ((xs.take k).map Nm.n).flatMap strC ++ [.string (B x.n)] by
        rw [List.take_add_one, hxm, List.map_append, List.flatMap_append]; rfl)
      obtain ⟨Ax, cx, hva, _⟩ := (H.out.e x (List.mem_of_getElem? hxm)).a.1
      obtain ⟨Aw, cw, hvw, _⟩ := (H.out.e x (List.mem_of_getElem? hxm)).w.1
      obtain ⟨xn, xa, xw, xx⟩ := x
      dsimp only at *
      subst hva hvw
      clear hxm
      go_wp2_with ((at_builtin; refine wpList_append_src _ rfl (.tmp 21) (.tmp 24) _ rfl w.heap.size 9 i0 _ 1 16 Tryz.underlying24 hi0 hz00 hz01 hz02 rfl (by decide) _ k (((xs.take k).map Nm.n).flatMap strC) rfl (HO.out.below (by (repeat (first | exact Below.refl _ _ | assumption | with_reducible refine below_alloc ?_ _ | with_reducible refine below_grow ?_ _ | with_reducible refine below_drewN ?_ _ | with_reducible refine below_drew ?_ | with_reducible refine below_setCell ?_ (by first | (dsimp only; omega) | (simp; done) | (simp; omega)) _)))) _ 1 [.string (B xn)] rfl rfl (src_new _ _ _ _ _ (by simp)) (by simp [Value.oneCell']) (by unfold maxLen; omega) (by omega) (by first | (simp; done) | omega | (simp; omega)) ?_; intro v1 w1 hown1 hg1 hat1 hty1; have HTY1 := Lib.hid hty1; clear hty1); have HB3 := Lib.hid (below_keeps (below_alloc (below_alloc HB.out _) _) hg1 (fun k q => q.2)); have HO3 := Lib.hid hown1; clear hown1 hg1 hat1)
      go_roundw
      case rel => exact ⟨k + 1, v1, by omega, rfl, by go_num, by rw [HT.out]; exact HO3, HB3⟩
      case measure => simp [intOf]; omega
    · have hk' : k = xs.length := by omega
      have ho := HO.out
      rw [hk', List.take_length] at ho
      have HO2 := Lib.hid ho
      have k1 : ¬ (k : Int) < (xs.length : Int) := by omega
      clear ho hk' hlt
      go_wp2
      go_ret
      exact ⟨o, rfl, by rw [List.length_map]; exact HO2.out, HB.out⟩
end Go.Proofs.YtljinmfkogmmlaaGreat.Spc
/-
  The walk of layer 20's registry, on: For. Conditions: at most 2^20 names; rows, texts of at most 2^30.
-/
namespace Go.Proofs.YtljinmfkogmmlaaGreat.Spc
open Go.ChangeShapes Go.WideShapes Go.Deep Go.RowKit Tab Mc Pa Quo
set_option linter.unusedSimpArgs false
set_option linter.unusedVariables false
set_option maxRecDepth 100000
/-- What stands behind a text's last stroke. -/
def baseL (s : List UInt8) : List UInt8 := s.foldl (fun acc c => if c = 47 then [] else acc ++ [c]) []
theorem base_snoc (s : List UInt8) (k : Nat) (h : k < s.length) : baseL (s.take (k + 1)) = if s[k] = 47 then [] else baseL (s.take k) ++ [s[k]] := by
  unfold baseL
  rw [List.take_succ_eq_append_getElem h, List.foldl_append]
  rfl
theorem last_base (s : List UInt8) : ∀ n, n ≤ s.length → ∃ k : Nat, k ≤ n ∧ Lib.lastIdx (B s) 47 n + 1 = k ∧ (s.take n).drop k = baseL (s.take n)
  | 0, _ => ⟨0, Nat.le_refl _, rfl, rfl⟩
  | n + 1, h => by
    obtain ⟨k, h1, h2, h3⟩ := last_base s n (by omega)
    have hg : (((B s).data[n]!).toNat : Int) = (s[n].toNat : Int) := by
      rw [getElem!_pos (B s).data n (by simp [B]; omega)]
      simp [B]
    rw [base_snoc s n (by omega)]
    by_cases hq : s[n] = 47
    · refine ⟨n + 1, Nat.le_refl _, ?_, ?_⟩
      · rw [Lib.lastIdx_hit _ _ _ (by rw [hg, hq]; rfl)]; rfl
      · rw [if_pos hq, List.drop_of_length_le (by rw [List.length_take]; omega)]
    · refine ⟨k, by omega, ?_, ?_⟩
      · rw [Lib.lastIdx_miss _ _ _ (by
          rw [hg]
          intro e
          exact hq (UInt8.toNat_inj.1 (by have : ((47 : UInt8).toNat) = 47 := rfl; omega)))]
        exact h2
      · rw [if_neg hq, List.take_succ_eq_append_getElem (by omega), List.drop_append_of_le_length (by rw [List.length_take]; omega), h3]
theorem base_is (s : List UInt8) : ∃ k : Nat, k ≤ s.length ∧ Lib.lastIndexByte (B s) 47 + 1 = k ∧ s.drop k = baseL s := by
  obtain ⟨k, h1, h2, h3⟩ := last_base s s.length (Nat.le_refl _)
  rw [List.take_length] at h3
  refine ⟨k, h1, ?_, h3⟩
  unfold Lib.lastIndexByte
  rw [B_size]
  exact h2
theorem base_len (s : List UInt8) : (baseL s).length ≤ s.length := by
  obtain ⟨k, h1, -, h3⟩ := base_is s
  rw [← h3, List.length_drop]
  omega
/-- The spec of a command, by what is told of names. -/
def forQ (get : List UInt8 → Sp × Bool) (c : List UInt8) : Sp × Bool :=
  if c = [] then get [45, 69] else if Lib.hasPrefix (baseL c) [45] = true then get [45, 68] else if (get (baseL c)).2 = true then get (baseL c) else get [45, 68]
theorem last20_c (s : List UInt8) (w : World) (hs : s.length ≤ 1073741824) : Calls Tryz.prog 37 #[.string (B s), .int .u8 47] w fun e w' => e = .returned (.int .i64 (Lib.lastIndexByte (B s) 47)) ∧ w = w' :=
  (Tryz.strings_LastIndexByte (B s) 47 (by rw [B_size]; omega) w).mono fun e w' ⟨he, hw⟩ => ⟨he, hw.symm⟩
theorem prefix20_b (s p : List UInt8) (w : World) : Calls Tryz.prog 38 #[.string (B s), .string (B p)] w fun e w' => e = .returned (.bool (Lib.hasPrefix s p)) ∧ w = w' :=
  (Tryz.strings_HasPrefix (B s) (B p) w).mono fun e w' ⟨he, hw⟩ => ⟨by rw [he, B_data, B_data], hw.symm⟩
set_option maxHeartbeats 4000000 in
theorem for_any (w : World) (A N rb : Nat) (v : Value) (xs : List Nm) (c : List UInt8) (h : RegAt w A N rb v xs) (hx : xs.length ≤ 1048576) (hl : ∀ e ∈ xs, e.x.a.length ≤ 1073741824 ∧ e.x.w.length ≤ 1073741824) (hc : c.length ≤ 1073741824) :
    Calls Tryz.prog 19 #[.pointer (some ⟨rb, 0, none⟩), .string (B c)] w (GetP (forQ (gotN xs) c) w) := by
  have HG := Lib.hid fun s W (hb : Below w.heap.size w W) => get_any W A N rb v xs s (h.below hb) hx hl
  unfold GetP at HG
  have HF := Lib.hid (show forQ (gotN xs) c = if c = [] then gotN xs [45, 69] else if Lib.hasPrefix (baseL c) [45] = true then gotN xs [45, 68] else if (gotN xs (baseL c)).2 = true then gotN xs (baseL c) else gotN xs [45, 68] from rfl)
  generalize forQ (gotN xs) c = q at *
  clear h hl
  by_cases h0 : c = []
  · rw [if_pos h0] at HF
    subst h0
    clear hc
    have HE := Lib.hid fun W hb => HG.out [45, 69] W hb
    generalize gotN xs [45, 69] = q1 at *
    obtain ⟨⟨qa, qw, qg, qx, qp, qs⟩, qb⟩ := q1
    dsimp only at HE
    go_enter Tryz.func19, Tryz.ntmps19
    go_wp2_with (go_at_call 16; (with_reducible refine (HE.out _ (below_alloc (Below.refl w.heap.size w) _)).mono ?_); rintro e3 w3 ⟨va3, vw3, rfl, ha3, hw3, hb3⟩; have HX3 := Lib.hid ((BoxN.new w sp0V 26).below hb3); have HB3 := Lib.hid (below_then (below_alloc (Below.refl w.heap.size w) _) hb3); have HA3 := Lib.hid (ha3.mono (show w.heap.size + 1 ≤ _ by simp)); have HW3 := Lib.hid (hw3.mono (show w.heap.size + 1 ≤ _ by simp)); obtain ⟨B3, b3, rfl, -⟩ := HA3.out.form0; obtain ⟨D3, d3, rfl, -⟩ := HW3.out.form0; obtain ⟨⟨r0, r1, r2, r3, r4, r5⟩, f0, f1, f2, f3, f4, f5⟩ := box6 HX3.out; haveI : Old w3 w.heap.size := ⟨HX3.out.lt⟩; clear ha3 hw3 hb3)
    obtain ⟨hbx, hk⟩ := box_fill6 HX3.out (.slice B3 qa.length b3) (.slice D3 qw.length d3) (.string (B qg)) (.string (B qx)) (.string (B qp)) (.string (B qs))
    obtain ⟨⟨t0, t1, t2, t3, t4, t5⟩, -⟩ := box6 hbx
    refine bodyPost_ret (v := .tuple #[spV (.slice B3 qa.length b3) (.slice D3 qw.length d3) ⟨qa, qw, qg, qx, qp, qs⟩, .bool qb]) (by simp [results, Tryz.results19, go_sem, t0, t1, t2, t3, t4, t5]) rfl ?_
    rw [HF.out]
    exact ⟨_, _, rfl, (own_keeps2 HA3.out hk (fun k e => by omega)).mono (by omega), (own_keeps2 HW3.out hk (fun k e => by omega)).mono (by omega), below_keeps HB3.out hk (fun k e => by omega)⟩
  rw [if_neg h0] at HF
  have hne : (c == []) = false := by rw [beq_eq_false_iff_ne]; exact h0
  obtain ⟨k, hk1, hk2, hk3⟩ := base_is c
  have hbl := base_len c
  have HLX := Lib.hid fun W => last20_c c W hc
  obtain ⟨z, hz⟩ : ∃ z : Int, Lib.lastIndexByte (B c) 47 = z := ⟨_, rfl⟩
  rw [hz] at hk2 HLX
  have hzk : z = (k : Int) - 1 := by omega
  subst hzk
  have hiw : IntKind.i64.wrap ((k : Int) - 1 + 1) = (k : Int) := by rw [IntWalk.i64_in _ (by omega)]; omega
  have hiw2 : (k : Int) - 1 + 1 = (k : Int) := by omega
  have m0 : (0 : Int) ≤ (k : Int) := by omega
  have m1 : (k : Int) ≤ (c.length : Int) := by omega
  have HPX := Lib.hid fun W => prefix20_b (baseL c) [45] W
  rw [← hk3] at HF HPX
  clear hz hbl h0 hk2 hk3
  cases hp : Lib.hasPrefix (c.drop k) [45] with
  | true =>
    rw [hp] at HPX HF
    rw [if_pos rfl] at HF
    clear hp
    have HE := Lib.hid fun W hb => HG.out [45, 68] W hb
    generalize gotN xs [45, 68] = q1 at *
    obtain ⟨⟨qa, qw, qg, qx, qp, qs⟩, qb⟩ := q1
    dsimp only at HE
    go_enter Tryz.func19, Tryz.ntmps19
    go_wp2_with (first
      | (go_at_call 37; refine (HLX.out _).mono ?_; rintro e w' ⟨rfl, rfl⟩)
      | (go_at_call 38; refine (HPX.out _).mono ?_; rintro e w' ⟨rfl, rfl⟩)
      | (go_at_call 16; (with_reducible refine (HE.out _ (below_alloc (Below.refl w.heap.size w) _)).mono ?_); rintro e3 w3 ⟨va3, vw3, rfl, ha3, hw3, hb3⟩; have HX3 := Lib.hid ((BoxN.new w sp0V 26).below hb3); have HB3 := Lib.hid (below_then (below_alloc (Below.refl w.heap.size w) _) hb3); have HA3 := Lib.hid (ha3.mono (show w.heap.size + 1 ≤ _ by simp)); have HW3 := Lib.hid (hw3.mono (show w.heap.size + 1 ≤ _ by simp)); obtain ⟨B3, b3, rfl, -⟩ := HA3.out.form0; obtain ⟨D3, d3, rfl, -⟩ := HW3.out.form0; obtain ⟨⟨r0, r1, r2, r3, r4, r5⟩, f0, f1, f2, f3, f4, f5⟩ := box6 HX3.out; haveI : Old w3 w.heap.size := ⟨HX3.out.lt⟩; clear ha3 hw3 hb3))
    obtain ⟨hbx, hk⟩ := box_fill6 HX3.out (.slice B3 qa.length b3) (.slice D3 qw.length d3) (.string (B qg)) (.string (B qx)) (.string (B qp)) (.string (B qs))
    obtain ⟨⟨t0, t1, t2, t3, t4, t5⟩, -⟩ := box6 hbx
    refine bodyPost_ret (v := .tuple #[spV (.slice B3 qa.length b3) (.slice D3 qw.length d3) ⟨qa, qw, qg, qx, qp, qs⟩, .bool qb]) (by simp [results, Tryz.results19, go_sem, t0, t1, t2, t3, t4, t5]) rfl ?_
    rw [HF.out]
    exact ⟨_, _, rfl, (own_keeps2 HA3.out hk (fun k e => by omega)).mono (by omega), (own_keeps2 HW3.out hk (fun k e => by omega)).mono (by omega), below_keeps HB3.out hk (fun k e => by omega)⟩
  | false =>
    rw [hp] at HPX HF
    rw [if_neg (by simp)] at HF
    clear hp
    have HE := Lib.hid fun W hb => HG.out (c.drop k) W hb
    have HE2 := Lib.hid fun W hb => HG.out [45, 68] W hb
    generalize gotN xs (c.drop k) = q1 at *
    generalize gotN xs [45, 68] = q2 at *
    obtain ⟨⟨qa, qw, qg, qx, qp, qs⟩, qb⟩ := q1
    obtain ⟨⟨ua, uw, ug, ux, up, us⟩, ub⟩ := q2
    dsimp only at HE HE2 HF
    cases qb with
    | true =>
      rw [if_pos rfl] at HF
      go_enter Tryz.func19, Tryz.ntmps19
      go_wp2_with (first
        | (go_at_call 37; refine (HLX.out _).mono ?_; rintro e w' ⟨rfl, rfl⟩)
        | (go_at_call 38; refine (HPX.out _).mono ?_; rintro e w' ⟨rfl, rfl⟩)
        | (go_at_call 16; (with_reducible refine (HE.out _ (below_alloc (Below.refl w.heap.size w) _)).mono ?_); rintro e3 w3 ⟨va3, vw3, rfl, ha3, hw3, hb3⟩; have HX3 := Lib.hid ((BoxN.new w sp0V 26).below hb3); have HB3 := Lib.hid (below_then (below_alloc (Below.refl w.heap.size w) _) hb3); have HA3 := Lib.hid (ha3.mono (show w.heap.size + 1 ≤ _ by simp)); have HW3 := Lib.hid (hw3.mono (show w.heap.size + 1 ≤ _ by simp)); obtain ⟨B3, b3, rfl, -⟩ := HA3.out.form0; obtain ⟨D3, d3, rfl, -⟩ := HW3.out.form0; obtain ⟨⟨r0, r1, r2, r3, r4, r5⟩, f0, f1, f2, f3, f4, f5⟩ := box6 HX3.out; haveI : Old w3 w.heap.size := ⟨HX3.out.lt⟩; clear ha3 hw3 hb3))
      obtain ⟨hbx, hk⟩ := box_fill6 HX3.out (.slice B3 qa.length b3) (.slice D3 qw.length d3) (.string (B qg)) (.string (B qx)) (.string (B qp)) (.string (B qs))
      have hal := fun W => below_alloc (Below.refl W.heap.size W) (.cells #[.slice B3 qa.length b3, .slice D3 qw.length d3, .string (B qg), .string (B qx), .string (B qp), .string (B qs)] 26)
      obtain ⟨⟨t0, t1, t2, t3, t4, t5⟩, -⟩ := box6 (hbx.below (hal _))
      refine bodyPost_ret (v := .tuple #[spV (.slice B3 qa.length b3) (.slice D3 qw.length d3) ⟨qa, qw, qg, qx, qp, qs⟩, .bool true]) (by simp [results, Tryz.results19, go_sem, t0, t1, t2, t3, t4, t5]) rfl ?_
      rw [HF.out]
      exact ⟨_, _, rfl, ((own_keeps2 HA3.out hk (fun k e => by omega)).below (hal _)).mono (by omega), ((own_keeps2 HW3.out hk (fun k e => by omega)).below (hal _)).mono (by omega), below_then (below_keeps HB3.out hk (fun k e => by omega)) (hal _)⟩
    | false =>
      rw [if_neg (by simp)] at HF
      go_enter Tryz.func19, Tryz.ntmps19
      go_wp2_with (first
        | (go_at_call 37; refine (HLX.out _).mono ?_; rintro e w' ⟨rfl, rfl⟩)
        | (go_at_call 38; refine (HPX.out _).mono ?_; rintro e w' ⟨rfl, rfl⟩)
        | (go_at_call 16; (with_reducible refine (HE.out _ (below_alloc (Below.refl w.heap.size w) _)).mono ?_); rintro e3 w3 ⟨va3, vw3, rfl, ha3, hw3, hb3⟩; have HX3 := Lib.hid ((BoxN.new w sp0V 26).below hb3); have HB3 := Lib.hid (below_then (below_alloc (Below.refl w.heap.size w) _) hb3); have HA3 := Lib.hid (ha3.mono (show w.heap.size + 1 ≤ _ by simp)); have HW3 := Lib.hid (hw3.mono (show w.heap.size + 1 ≤ _ by simp)); obtain ⟨B3, b3, rfl, -⟩ := HA3.out.form0; obtain ⟨D3, d3, rfl, -⟩ := HW3.out.form0; obtain ⟨⟨r0, r1, r2, r3, r4, r5⟩, f0, f1, f2, f3, f4, f5⟩ := box6 HX3.out; haveI : Old w3 w.heap.size := ⟨HX3.out.lt⟩; clear ha3 hw3 hb3)
        | (go_at_call 16; (with_reducible refine (HE2.out _ (below_alloc HB3.out _)).mono ?_); rintro e4 w4 ⟨va4, vw4, rfl, ha4, hw4, hb4⟩; have HX4 := Lib.hid ((HX3.out.below (below_alloc (Below.refl _ _) _)).below hb4); have HB4 := Lib.hid (below_then (below_alloc HB3.out _) hb4); have HA4 := Lib.hid (ha4.mono (show w.heap.size + 1 ≤ _ by have := HX3.out.lt; simp; omega)); have HW4 := Lib.hid (hw4.mono (show w.heap.size + 1 ≤ _ by have := HX3.out.lt; simp; omega)); obtain ⟨B4, b4, rfl, -⟩ := HA4.out.form0; obtain ⟨D4, d4, rfl, -⟩ := HW4.out.form0; clear r0 r1 r2 r3 r4 r5 f0 f1 f2 f3 f4 f5; obtain ⟨⟨r0, r1, r2, r3, r4, r5⟩, f0, f1, f2, f3, f4, f5⟩ := box6 HX4.out; haveI : Old w4 w.heap.size := ⟨HX4.out.lt⟩; clear ha4 hw4 hb4))
      obtain ⟨hbx, hk⟩ := box_fill6 HX4.out (.slice B4 ua.length b4) (.slice D4 uw.length d4) (.string (B ug)) (.string (B ux)) (.string (B up)) (.string (B us))
      obtain ⟨⟨t0, t1, t2, t3, t4, t5⟩, -⟩ := box6 hbx
      refine bodyPost_ret (v := .tuple #[spV (.slice B4 ua.length b4) (.slice D4 uw.length d4) ⟨ua, uw, ug, ux, up, us⟩, .bool ub]) (by simp [results, Tryz.results19, go_sem, t0, t1, t2, t3, t4, t5]) rfl ?_
      rw [HF.out]
      exact ⟨_, _, rfl, (own_keeps2 HA4.out hk (fun k e => by omega)).mono (by omega), (own_keeps2 HW4.out hk (fun k e => by omega)).mono (by omega), below_keeps HB4.out hk (fun k e => by omega)⟩
end Go.Proofs.YtljinmfkogmmlaaGreat.Spc
/-
  The walk of layer 20's registry, on: Of. Conditions: fewer than 10000 names; rows of at most 2^30.
-/
namespace Go.Proofs.YtljinmfkogmmlaaGreat.Spc
open Go.ChangeShapes Go.WideShapes Go.Deep Go.RowKit Tab Mc Pa Quo
set_option linter.unusedSimpArgs false
set_option linter.unusedVariables false
set_option maxRecDepth 100000
/-- A name set, if it may be. -/
def setC (ys : List (List UInt8 × Sp)) (s : List UInt8) (x : Sp) : List (List UInt8 × Sp) := if chk20 s x = 0 then setY ys s x else ys
/-- All set, one by one. -/
def setAll (l : List Nm) : List (List UInt8 × Sp) := l.foldl (fun ys e => setC ys e.n e.x) []
theorem setAll_snoc (l : List Nm) (k : Nat) (e : Nm) (h : l[k]? = some e) : setAll (l.take (k + 1)) = setC (setAll (l.take k)) e.n e.x := by
  unfold setAll
  rw [List.take_add_one, h, List.foldl_append]
  rfl
theorem setC_len (ys : List (List UInt8 × Sp)) (s : List UInt8) (x : Sp) : (setC ys s x).length ≤ ys.length + 1 := by
  unfold setC
  split
  · rw [set_len]; split <;> omega
  · omega
theorem setAll_len (l : List Nm) : (setAll l).length ≤ l.length := by
  have : ∀ k, k ≤ l.length → (setAll (l.take k)).length ≤ k := by
    intro k
    induction k with
    | zero => intro _; rw [List.take_zero]; exact Nat.le_refl _
    | succ k ih =>
      intro hk
      rw [setAll_snoc l k _ (List.getElem?_eq_getElem (by omega))]
      have := setC_len (setAll (l.take k)) l[k].n l[k].x
      have := ih (by omega)
      omega
  have := this l.length (Nat.le_refl _)
  rwa [List.take_length] at this
theorem setC_mem {ys : List (List UInt8 × Sp)} (hr : RisesY ys) {s : List UInt8} {x : Sp} {e : List UInt8 × Sp} (h : e ∈ setC ys s x) : (chk20 s x = 0 ∧ e = (s, x)) ∨ e ∈ ys := by
  unfold setC at h
  split at h
  · rename_i hc
    rw [(set_perm hr s x).mem_iff, List.mem_append] at h
    rcases h with h | h
    · exact .inr (List.mem_filter.1 h).1
    · exact .inl ⟨hc, by simpa using h⟩
  · exact .inr h
theorem set_rises {ys : List (List UInt8 × Sp)} (hr : RisesY ys) (s : List UInt8) (x : Sp) : RisesY (setY ys s x) := by
  unfold setY
  cases ht : thereY ys s with
  | true =>
    rw [if_pos rfl]
    obtain ⟨y, hp, hy, -⟩ := thereY_split ht
    unfold RisesY at hr ⊢
    have : (ys.set (placeY ys s) (s, x)).map keyE = ys.map keyE := by
      rw [List.map_set]
      refine List.ext_getElem? fun i => ?_
      rw [List.getElem?_set]
      split
      · rename_i h1
        subst h1
        rw [List.getElem?_map, List.getElem?_eq_getElem hp, hy]
        simp [keyE, hp]
      · rfl
    rw [this]
    exact hr
  | false =>
    rw [if_neg (by simp)]
    unfold RisesY at hr ⊢
    rw [List.map_append, List.map_cons, List.map_take, List.map_drop]
    refine rises_insE hr s [] ?_
    unfold thereY at ht
    rw [List.getElem?_map, Option.map_map]
    exact ht
theorem setC_rises {ys : List (List UInt8 × Sp)} (hr : RisesY ys) (s : List UInt8) (x : Sp) : RisesY (setC ys s x) := by
  unfold setC
  split
  · exact set_rises hr s x
  · exact hr
def OfP (ys : List (List UInt8 × Sp)) (w : World) (e : Ending) (w' : World) : Prop := ∃ (rb A N : Nat) (v : Value) (zs : List Nm), e = .returned (.pointer (some ⟨rb, 0, none⟩)) ∧ RegAt w' A N rb v zs ∧ ysOf zs = ys ∧ w.heap.size ≤ rb ∧ Below w.heap.size w w'
set_option maxHeartbeats 2000000 in
theorem of20_any (l : List Nm) (v : Value) (w : World) (hv : Sl w namC 7 v l) (hn : l.length < 10000) (hok : ∀ e ∈ l, Sl w numC 1 e.va e.x.a ∧ Sl w strC 1 e.vw e.x.w ∧ e.x.a.length ≤ 1073741824 ∧ e.x.w.length ≤ 1073741824 ∧ e.n.length ≤ 1073741824) :
    Calls Tryz.prog 17 #[v] w (OfP (setAll l) w) := by
  have HNW := Lib.hid fun w => new20_any w
  obtain ⟨A0, c0, rfl, -, -, -, hA⟩ := hv
  have HA := Lib.hid hA
  have HOK := Lib.hid hok
  clear hA hok
  go_enter Tryz.func17, Tryz.ntmps17
  go_wp2_with (go_at_call 14; refine (HNW.out _).mono ?_; rintro e w1 ⟨rfl, hr, hb⟩; have HR1 := Lib.hid hr; have HB1 := Lib.hid hb; clear hr hb)
  obtain ⟨rb, hrb⟩ : ∃ rb, rb = w.heap.size := ⟨_, rfl⟩
  obtain ⟨A, hA⟩ : ∃ A, A = w.heap.size + 1 := ⟨_, rfl⟩
  have HZ := Lib.hid (Nat.le_of_eq hrb.symm)
  have HR1 : Hid (RegAt w1 A A rb (.slice none 0 0) []) := by rw [hA, hrb]; exact HR1
  rw [← hrb]
  clear hrb hA
  go_loopw [9] (fun i wr => ∃ (k N : Nat) (u : Value) (zs : List Nm), k ≤ l.length ∧ i = .int .i64 k ∧ Hid (RegAt wr A N rb u zs) ∧ Hid (ysOf zs = setAll (l.take k)) ∧ Hid (Below w.heap.size w wr)) (fun i _ => l.length - (intOf i).toNat)
  case atStart => exact ⟨0, A, _, [], by omega, rfl, HR1, Lib.hid rfl, HB1⟩
  case round =>
    obtain ⟨k, N, u, zs, hk, rfl, HR, HY, HB⟩ := hrel
    clear HR1 HB1
    by_cases hlt : k < l.length
    · obtain ⟨b, off, rfl, hb, hc⟩ := HA.out (by omega)
      obtain ⟨x, hxm⟩ := get_some hlt
      have hG : ∀ j u, (namC x)[j]? = some u → wr.cell? ⟨b, off + k * 7 + j, none⟩ = some u := fun j u hj => (HB.out.cell (p := ⟨b, off + k * 7 + j, none⟩) hb).trans (hc k _ hxm j _ hj)
      have e0 := hG 0 _ rfl
      have e1 := hG 1 _ rfl
      have e2 := hG 2 _ rfl
      have e3 := hG 3 _ rfl
      have e4 := hG 4 _ rfl
      have e5 := hG 5 _ rfl
      have e6 := hG 6 _ rfl
      simp only [Nat.add_zero] at e0
      haveI : Old wr b := ⟨Nat.lt_of_lt_of_le hb HB.out.size⟩
      have k0 : (0 : Int) ≤ (k : Int) := by omega
      have k1 : (k : Int) < (l.length : Int) := by omega
      obtain ⟨ha, hw, la, lw, ln⟩ := HOK.out x (List.mem_of_getElem? hxm)
      have HS := Lib.hid (setAll_snoc l k x hxm)
      have hzl : zs.length < 10000 := by
        have h1 := setAll_len (l.take k)
        rw [← HY.out, ys_len, List.length_take] at h1
        omega
      have HST := Lib.hid fun W (hW : Below wr.heap.size wr W) => set20_any W A N rb u zs x.n x.va x.vw x.x (HR.out.below hW) hzl ln (ha.below (below_then HB.out hW)) (hw.below (below_then HB.out hW)) la lw
      unfold SetP at HST
      have HLA := Lib.hid HR.out.la
      obtain ⟨Aa, ca, hva, _⟩ := ha
      obtain ⟨Aw, cw, hvw, _⟩ := hw
      obtain ⟨xn, xa, xw, xx⟩ := x
      dsimp only at *
      subst hva hvw
      clear hG hc hxm
      go_wp2_with (go_at_call 15; refine (HST.out _ (by (repeat (first | exact Below.refl _ _ | assumption | with_reducible refine below_alloc ?_ _ | with_reducible refine below_grow ?_ _ | with_reducible refine below_drewN ?_ _ | with_reducible refine below_drew ?_ | with_reducible refine below_setCell ?_ (by first | (dsimp only; omega) | (simp; done) | (simp; omega)) _)))).mono ?_; rintro e5 w5 ⟨rfl, v5, N5, z5, hr5, hn5, hy5, hk5, hat5⟩; have HR5 := Lib.hid hr5; have HY5 := Lib.hid (hy5.trans (show _ = setC (setAll (l.take k)) xn xx by rw [← HY.out]; rfl)); have HB5 := Lib.hid (below_keeps (below_alloc HB.out _) hk5 (fun j q => by have := HLA.out; have := HZ.out; rcases q with q | ⟨_, q⟩ <;> omega)); clear hr5 hy5 hk5 hat5)
      go_roundw
      case rel => exact ⟨k + 1, N5, v5, z5, by omega, by go_num, HR5, Lib.hid (by show _ = _; rw [HS.out]; exact HY5.out), HB5⟩
      case measure => simp [intOf]; omega
    · have hk2 : k = l.length := by omega
      have hy := HY.out
      rw [hk2, List.take_length] at hy
      have HY2 := Lib.hid hy
      have d0 : ¬ (k : Int) < (l.length : Int) := by omega
      clear hk2 hlt hy
      go_wp2
      go_ret
      exact ⟨rb, A, N, u, zs, rfl, HR.out, HY2.out, HZ.out, HB.out⟩
end Go.Proofs.YtljinmfkogmmlaaGreat.Spc
/-
  The walks of layer 20's reference registry: Get, Remove. Conditions: at most 2^20 names.
-/
namespace Go.Proofs.YtljinmfkogmmlaaGreat.Spc
open Go.ChangeShapes Go.WideShapes Go.Deep Go.RowKit Tab Mc Pa Quo
set_option linter.unusedSimpArgs false
set_option linter.unusedVariables false
set_option maxRecDepth 100000
end Go.Proofs.YtljinmfkogmmlaaGreat.Spc
/-
  The walks of layer 20's reference registry, on: Set. Conditions: fewer than 10000 names; rows of at most 2^30.
-/
namespace Go.Proofs.YtljinmfkogmmlaaGreat.Spc
open Go.ChangeShapes Go.WideShapes Go.Deep Go.RowKit Tab Mc Pa Quo
set_option linter.unusedSimpArgs false
set_option linter.unusedVariables false
set_option maxRecDepth 100000
end Go.Proofs.YtljinmfkogmmlaaGreat.Spc
/-
  The walk of layer 20's reference registry, on: For. Conditions: at most 2^20 names; texts of at most 2^30. (Printed by gen_rfor20.py.)
-/
namespace Go.Proofs.YtljinmfkogmmlaaGreat.Spc
open Go.ChangeShapes Go.WideShapes Go.Deep Go.RowKit Tab Mc Pa Quo
set_option linter.unusedSimpArgs false
set_option linter.unusedVariables false
set_option maxRecDepth 100000
end Go.Proofs.YtljinmfkogmmlaaGreat.Spc
