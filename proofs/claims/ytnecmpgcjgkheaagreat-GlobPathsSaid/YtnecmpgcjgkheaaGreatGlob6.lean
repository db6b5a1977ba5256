/-
  The walk of layer 27 (glob): the iterator over what a pattern leads to. Conditions: patterns of at most 9000 bytes, paths of at most 10000, a tree of at most 2^20 files; the library's variable MaxLen holds some number.
-/
import Derived.Test.YtnecmpgcjgkheaaGreatGlob5
import Derived.Test.YtnecmpgcjgkheaaGreatIterE
import Derived.Test.YtnecmpgcjgkheaaGreatKeyed3
set_option linter.unusedSimpArgs false
set_option linter.unusedVariables false
namespace Go.Proofs.YtnecmpgcjgkheaaGreat.Glob
open Go.ChangeShapes Go.WideShapes Go.Deep Go.RowKit Fil Pat
attribute [local go_sem] Oper.semAt_some
set_option maxRecDepth 100000
/-- What the iterator reads: its tree, its pattern, its directory. -/
structure PaAt (w0 : World) (b0 tb : Nat) (x : List Fl) (nb : List (List UInt8) → Nat) (mp : List (List UInt8) → Option Nat) (t1 pb db : Nat) (p dir : List UInt8) (W : World) : Prop where
  t : TreeAt w0 b0 tb x nb mp
  m : MaxL w0
  b : Below w0.heap.size w0 W
  ct : W.cell? ⟨t1, 0, none⟩ = some (.pointer (some ⟨tb, 0, none⟩))
  cp : W.cell? ⟨pb, 0, none⟩ = some (.string (B p))
  cd : W.cell? ⟨db, 0, none⟩ = some (.string (B dir))
  fd : W.frozen? ⟨db, 0, none⟩ = false
  hd : w0.heap.size ≤ db
section
variable {w0 W W' : World} {b0 tb t1 pb db : Nat} {x : List Fl} {nb : List (List UInt8) → Nat} {mp : List (List UInt8) → Option Nat} {p dir : List UInt8}
theorem PaAt.below (h : PaAt w0 b0 tb x nb mp t1 pb db p dir W) (hb : Below W.heap.size W W') : PaAt w0 b0 tb x nb mp t1 pb db p dir W' :=
  have c := fun {k : Nat} {v : Value} (e : W.cell? ⟨k, 0, none⟩ = some v) => (hb.cell (p := ⟨k, 0, none⟩) (World.block_lt_of_cell? W _ e)).trans e
  ⟨h.t, h.m, below_then h.b hb, c h.ct, c h.cp, c h.cd, (hb.frozen (p := ⟨db, 0, none⟩) (World.block_lt_of_cell? W _ h.cd)).trans h.fd, h.hd⟩
end
theorem WkAt.set {w0 W : World} {b0 tb wk gb off c db : Nat} {x : List Fl} {nb : List (List UInt8) → Nat} {mp : List (List UInt8) → Option Nat} {parts : List (List UInt8)} (h : WkAt w0 b0 tb x nb mp wk gb off c parts W) (hd : w0.heap.size ≤ db) (h1 : wk ≠ db) (h2 : gb ≠ db) (v : Value) :
    WkAt w0 b0 tb x nb mp wk gb off c parts (W.setCell ⟨db, 0, none⟩ v) := by
  have hS := Keeps.setCell (F := fun k => k = db) W (a := ⟨db, 0, none⟩) rfl v
  have q := fun {k o : Nat} {u : Value} (e : W.cell? ⟨k, o, none⟩ = some u) (hk : k ≠ db) => (World.cell?_of_block (w := W) (a := ⟨k, o, none⟩) (hS.block k (World.block_lt_of_cell? W _ e) hk)).trans e
  exact ⟨h.t, h.m, h.b.trans (hS.below h.b.size (fun k e => by omega)), q h.ct h1, q h.cs h1, fun k p e => q (h.ps k p e) h2⟩
set_option maxHeartbeats 6400000 in
theorem paths_gives {w0 w : World} {b0 tb t1 pb db : Nat} {x : List Fl} {nb : List (List UInt8) → Nat} {mp : List (List UInt8) → Option Nat} {p dir : List UInt8} (h : PaAt w0 b0 tb x nb mp t1 pb db p dir w)
    (hpl : p.length ≤ 9000) (hdl : dir.length ≤ 10000) (hx : x.length ≤ 1048576) (hxl : ∀ f ∈ x, f.path.length ≤ 10000) :
    GivesE Tryz.prog 22 #[.pointer (some ⟨t1, 0, none⟩), .pointer (some ⟨pb, 0, none⟩), .pointer (some ⟨db, 0, none⟩)] Fil.encS (fun k => k = t1 ∨ k = pb ∨ k = db) w0.heap.size db (globG x dir p) w := by
  intro n hn l J Jx W hW hJ hJx hF hJE hY F hFG h0
  have h := h.below hW
  have HO := Lib.hid fun W => globParts_any p W (by omega)
  have HX := Lib.hid hxl
  have HN := Lib.hid h
  have HY := Lib.hid hY
  have HJ := Lib.hid hJ
  have HJE := Lib.hid hJE
  have HJx := Lib.hid hJx
  have HF := Lib.hid hF
  have HFG := Lib.hid hFG
  have H0 := Lib.hid h0
  have HIP := Lib.hid fun W' (hb : Below W.heap.size W W') => isPath_any dir W' (HN.out.m.below (below_then HN.out.b hb)) (by omega)
  have HPL := Lib.hid (partsG_len p)
  have HWI := Lib.hid fun (wk g off c : Nat) (d : List UInt8) (W2 : World) (e : globG x dir p = walkG x (partsG p) [] d) (hw : WkAt w0 b0 tb x nb mp wk g off c (partsG p) W2) (hj : J [] F W2) (hA : W.heap.size ≤ W2.heap.size) (h1 : ¬ F wk) (h2 : ¬ F g) (hd : d.length ≤ 10000) =>
    walkIn_any hx hxl (fun q hq => by have := (partsG_len p).2 q hq; omega) (by have := (partsG_len p).1; omega) l W.heap.size h.b.size J Jx (globG x dir p) hJ hJx hF hY (partsG p) 0 [] d [] F W2 (partsG_ne p) rfl hw hj hA h1 h2 (by rw [e]; exact List.prefix_refl _) (by have := (partsG_len p).1; simp; omega) (by have := (partsG_len p).1; omega)
  have HDL := Lib.hid (World.block_lt_of_cell? W _ HN.out.cd)
  clear hY hJ hJx hF h0 hFG hJE hW hxl h
  have HNE := Lib.hid (partsG_ne p)
  have HGG := Lib.hid (show ∀ (_ : p ≠ []) (_ : pathB dir = true), globG x dir p = walkG x (partsG p) [] (if (partsG p).head? = some [] then [47] else dir) from fun h1 h2 => by unfold globG; rw [if_neg (by simp [h1, h2])])
  generalize partsG p = P at *
  refine callsIn_of_wp Tryz.func22 rfl trivial ?_ rfl
  simp only [Tryz.ntmps22, List.size_toArray, List.length_cons, List.length_nil, Nat.reduceAdd, Nat.reduceSub, Array.replicate_succ, Array.replicate_zero, List.push_toArray, List.append_toArray, List.nil_append, List.cons_append]
  refine wpIn_wide.2 ?_
  go_upto_region 1 with fail
  go_cut [5] (fun s5 wx => ∃ (wk g off c : Nat), s5 = .pointer (some ⟨wk, 0, none⟩) ∧ Hid (WkAt w0 b0 tb x nb mp wk g off c P wx) ∧ Hid (PaAt w0 b0 tb x nb mp t1 pb db p dir wx) ∧ Hid (Below W.heap.size W wx) ∧ Hid (W.heap.size ≤ wk ∧ W.heap.size ≤ g))
  case first =>
    refine wp_region_keyed (fun W => W.cell? ⟨t1, 0, none⟩ = some (.pointer (some ⟨tb, 0, none⟩)) ∧ W.cell? ⟨pb, 0, none⟩ = some (.string (B p))) [4] (by kernel_rfl) ?_
    have HN := Lib.hid (HN.out.below (below_drew (Below.refl _ _)))
    have HB := Lib.hid (below_drew (Below.refl W.heap.size W))
    generalize World.drew _ = D at *
    refine wpAnyK_load2 (i := 0) [3, 4, 5] (some 6) (v := ?v0_1z1) rfl rfl (by kernel_rfl) (by kernel_rfl) (by kernel_rfl) (by kernel_rfl) (by kernel_rfl) (fun _ _ _ h => h) (Or.inl ⟨by rfl, ?y0_1z1⟩) (fun _ => ⟨HN.out.ct, HN.out.cp⟩) ?r0_1z1
    case y0_1z1 =>
      intro w hSw
      (try dsimp only at hSw)
      go_split_ands
      go_simp
      try with_reducible rfl
    try simp only [Act.put, List.setIfInBounds_toArray, List.set_cons_zero, List.set_cons_succ]
    refine wpAnyK_load2 (i := 1) [2, 3, 4, 5] (some 7) (v := ?v1_2z1) rfl rfl (by kernel_rfl) (by kernel_rfl) (by kernel_rfl) (by kernel_rfl) (by kernel_rfl) (fun _ _ _ h => h) (Or.inl ⟨by rfl, ?y1_2z1⟩) (fun _ => ⟨HN.out.ct, HN.out.cp⟩) ?r1_2z1
    case y1_2z1 =>
      intro w hSw
      (try dsimp only at hSw)
      go_split_ands
      go_simp
      try with_reducible rfl
    try simp only [Act.put, List.setIfInBounds_toArray, List.set_cons_zero, List.set_cons_succ]
    refine wpAnyK_ready (rs := [2]) (by kernel_rfl) (by simp) ?_
    refine AllReadyK.cons (i := 2) rfl (fun K hK => ?_) ?_
    · go_simp
      go_at_call 23
      refine (HO.out _).mono ?_
      rintro e w2 ⟨v, rfl, ho, hb⟩
      obtain ⟨g, off, c, rfl, hg, hg2, -, -⟩ := ho.form' (List.length_pos_iff.2 HNE.out)
      have HQ := Lib.hid ho
      have HG := Lib.hid (Nat.le_trans HB.out.size hg)
      have HN := Lib.hid (HN.out.below hb)
      have HB := Lib.hid (below_then HB.out hb)
      clear ho hb hg hg2
      refine hK.out _ _ (fun _ => ⟨HN.out.ct, HN.out.cp⟩) ?_
      clear hK K
      try simp only [Act.put, List.setIfInBounds_toArray, List.set_cons_zero, List.set_cons_succ]
      refine wpAnyK_take2 (i := 3) (some 9) (v := ?v3_3z1) rfl rfl (by kernel_rfl) (by kernel_rfl) (by kernel_rfl) (by kernel_rfl) (fun _ _ _ h => h) (Or.inl ⟨by rfl, ?y3_3z1⟩) (fun _ => ⟨HN.out.ct, HN.out.cp⟩) ?r3_3z1
      case y3_3z1 =>
        intro w hSw
        go_simp
        try with_reducible rfl
      try simp only [Act.put, List.setIfInBounds_toArray, List.set_cons_zero, List.set_cons_succ]
      refine wpAnyK_ready (rs := [4]) (by kernel_rfl) (by simp) ?_
      refine AllReadyK.cons (i := 4) rfl (fun K hK => ?_) ?_
      · go_simp
        have HK := Lib.hid HB.out.size
        have hal := below_alloc (Below.refl w2.heap.size w2) (.cells #[.pointer (some ⟨tb, 0, none⟩), .slice (some ⟨g, off, none⟩) P.length c] 51)
        have HN := Lib.hid (HN.out.below hal)
        have HB := Lib.hid (below_then HB.out hal)
        have HQ := Lib.hid (HQ.out.below hal)
        have HX2 := Lib.hid (BoxN.new w2 [.pointer (some ⟨tb, 0, none⟩), .slice (some ⟨g, off, none⟩) P.length c] 51)
        clear hal
        generalize w2.heap.size = wk at *
        generalize w2.alloc (.cells #[.pointer (some ⟨tb, 0, none⟩), .slice (some ⟨g, off, none⟩) P.length c] 51) = D at *
        refine hK.out _ _ (fun h => Bool.noConfusion ((show unl _ _ = false by kernel_rfl).symm.trans h)) ?_
        clear hK K
        try simp only [Act.put, List.setIfInBounds_toArray, List.set_cons_zero, List.set_cons_succ]
        refine wpAnyK_take2 (i := 5) (some 5) (v := ?v5_4z1) rfl rfl (by kernel_rfl) (by kernel_rfl) (by kernel_rfl) (by kernel_rfl) (fun _ _ _ h => h) (Or.inl ⟨by rfl, ?y5_4z1⟩) (fun h => Bool.noConfusion ((show unl _ _ = false by kernel_rfl).symm.trans h)) ?r5_4z1
        case y5_4z1 =>
          intro w hSw
          go_simp
          try with_reducible rfl
        try simp only [Act.put, List.setIfInBounds_toArray, List.set_cons_zero, List.set_cons_succ]
        refine wpAnyK_done (by kernel_rfl) ?_ _
        go_wp2_with fail
        go_meet
        exact ⟨wk, g, off, c, rfl, ⟨HN.out.t, HN.out.m, HN.out.b, HX2.out.c 0 _ rfl, HX2.out.c 1 _ rfl, fun k p e => (own_str HQ.out e).2.2⟩, HN.out, HB.out, HK.out, HG.out⟩
      exact AllReadyK.nil
    exact AllReadyK.nil
  case rest =>
    obtain ⟨wk, g, off, c, rfl, HW, HN, HB, HG⟩ := hcut
    have ct := HN.out.ct
    have cp := HN.out.cp
    have cd := HN.out.cd
    have hb1 := World.block_lt_of_cell? wc _ cd
    haveI : Old wc t1 := ⟨World.block_lt_of_cell? wc _ ct⟩
    haveI : Old wc pb := ⟨World.block_lt_of_cell? wc _ cp⟩
    haveI : Old wc db := ⟨hb1⟩
    have HDB := Lib.hid (show wk ≠ db ∧ g ≠ db ∧ ¬ F wk ∧ ¬ F g by
      have h1 : db < W.heap.size := HDL.out
      have h2 := HG.out
      exact ⟨by omega, by omega, fun q => by have := HF.out _ _ _ H0.out _ q; omega, fun q => by have := HF.out _ _ _ H0.out _ q; omega⟩)
    by_cases hp : p = []
    · subst hp
      have HE := Lib.hid (show globG x dir [] = [] by simp [globG])
      go_wp2_with fail
      refine bodyPost_ret (results_none rfl _ _ _) rfl ?_
      exact ⟨⟨_, rfl⟩, F, .inl (by rw [HE.out]; exact HJ.out _ _ _ _ (LullQ.of_below HB.out) H0.out)⟩
    have e2 : (p == []) = false := by simpa using hp
    have HIQ := Lib.hid (HIP.out _ HB.out)
    cases hpd : pathB dir with
    | false =>
      rw [hpd] at HIQ
      have HE := Lib.hid (show globG x dir p = [] by unfold globG; rw [if_pos (.inr hpd)])
      clear hpd hp
      go_wp2_with (go_at_call 24; refine HIQ.out.mono ?_; rintro e w3 ⟨rfl, hb⟩; have HB3 := Lib.hid (below_then HB.out hb); clear hb)
      refine bodyPost_ret (results_none rfl _ _ _) rfl ?_
      exact ⟨⟨_, rfl⟩, F, .inl (by rw [HE.out]; exact HJ.out _ _ _ _ (LullQ.of_below HB3.out) H0.out)⟩
    | true =>
      rw [hpd] at HIQ
      have HGE := Lib.hid (HGG.out hp hpd)
      obtain ⟨q0, qs, hq⟩ : ∃ q0 qs, P = q0 :: qs := by cases P with | nil => exact absurd rfl HNE.out | cons a b => exact ⟨a, b, rfl⟩
      have HWQ := Lib.hid fun W' (hb : Below wc.heap.size wc W') => HW.out.below hb
      have HQ := Lib.hid hq
      have hlen : (0 : Int) < (P.length : Int) := by rw [hq]; simp
      have HST := Lib.hid fun (d : List UInt8) (W2 : World) (e : globG x dir p = walkG x P [] d) (hw : WkAt w0 b0 tb x nb mp wk g off c P W2) (hj : J [] F W2) (hA : W.heap.size ≤ W2.heap.size) (hd : d.length ≤ 10000) => HWI.out wk g off c d W2 e hw hj hA HDB.out.2.2.1 HDB.out.2.2.2 hd
      have HG0 := Lib.hid (HW.out.ps 0 q0 (by rw [hq]; rfl))
      clear hpd hp hq
      by_cases hq0 : q0 = []
      · subst hq0
        have HE := Lib.hid (show globG x dir p = walkG x P [] [47] by rw [HGE.out, HQ.out]; rfl)
        go_wp2_with (go_at_call 24; refine HIQ.out.mono ?_; rintro e w3 ⟨rfl, hb⟩; have HB3 := Lib.hid (below_then HB.out hb); have HN3 := Lib.hid (HN.out.below hb); have HW3 := Lib.hid (HW.out.below hb); have cw := HW3.out.cs; have c0 : w3.cell? ⟨g, off, none⟩ = some (.string (B [])) := HW3.out.ps 0 [] (by rw [HQ.out]; rfl); have cd3 := HN3.out.cd; have fd3 := HN3.out.fd; haveI : Old w3 wk := ⟨World.block_lt_of_cell? w3 _ cw⟩; haveI : Old w3 g := ⟨World.block_lt_of_cell? w3 _ c0⟩; haveI : Old w3 db := ⟨World.block_lt_of_cell? w3 _ cd3⟩; clear hb ct cp cd)
        refine (HST.out [47] _ HE.out (HW3.out.set HN3.out.hd HDB.out.1 HDB.out.2.1 _) (HJE.out _ _ _ HFG.out (HJ.out _ _ _ _ (LullQ.of_below HB3.out) H0.out)) (by have := HB3.out.size; simpa using this) (by simp)).mono ?_
        rintro e w4 ⟨F', hk, ⟨rfl, hj⟩ | ⟨rfl, q, hq, hj⟩⟩
        · have H4 := Lib.hid hj
          clear hk hj
          go_wp2_with fail
          go_end0
          exact ⟨⟨_, rfl⟩, F', .inl (by rw [HE.out]; exact H4.out)⟩
        · have H4 := Lib.hid hj
          clear hk hj
          go_wp2_with fail
          go_end0
          exact ⟨⟨_, rfl⟩, F', .inr ⟨q, hq, H4.out⟩⟩
      · have e3 : (q0 == []) = false := by simpa using hq0
        have HE := Lib.hid (show globG x dir p = walkG x P [] dir by rw [HGE.out, HQ.out, List.head?_cons, if_neg (by simpa using hq0)])
        clear hq0
        go_wp2_with (go_at_call 24; refine HIQ.out.mono ?_; rintro e w3 ⟨rfl, hb⟩; have HB3 := Lib.hid (below_then HB.out hb); have HN3 := Lib.hid (HN.out.below hb); have HW3 := Lib.hid (HW.out.below hb); have cw := HW3.out.cs; have c0 : w3.cell? ⟨g, off, none⟩ = some (.string (B q0)) := HW3.out.ps 0 q0 (by rw [HQ.out]; rfl); have cd3 := HN3.out.cd; have fd3 := HN3.out.fd; haveI : Old w3 wk := ⟨World.block_lt_of_cell? w3 _ cw⟩; haveI : Old w3 g := ⟨World.block_lt_of_cell? w3 _ c0⟩; haveI : Old w3 db := ⟨World.block_lt_of_cell? w3 _ cd3⟩; clear hb ct cp cd)
        refine (HST.out dir _ HE.out HW3.out (HJ.out _ _ _ _ (LullQ.of_below HB3.out) H0.out) HB3.out.size (by omega)).mono ?_
        rintro e w4 ⟨F', hk, ⟨rfl, hj⟩ | ⟨rfl, q, hq, hj⟩⟩
        · have H4 := Lib.hid hj
          clear hk hj
          go_wp2_with fail
          go_end0
          exact ⟨⟨_, rfl⟩, F', .inl (by rw [HE.out]; exact H4.out)⟩
        · have H4 := Lib.hid hj
          clear hk hj
          go_wp2_with fail
          go_end0
          exact ⟨⟨_, rfl⟩, F', .inr ⟨q, hq, H4.out⟩⟩
end Go.Proofs.YtnecmpgcjgkheaaGreat.Glob
