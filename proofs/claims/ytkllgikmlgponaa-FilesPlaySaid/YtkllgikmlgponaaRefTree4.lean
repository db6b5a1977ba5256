/-
  The reference's rows of files, on: Remove. Conditions: paths of at most 2^30 bytes; at most 2^20 files.
-/
import Derived.Test.YtkllgikmlgponaaRefTree3
namespace Go.Proofs.Ytkllgikmlgponaa.Fil
open Go.ChangeShapes Go.WideShapes Go.Deep Go.RowKit Pat
set_option maxRecDepth 100000
/-- What Remove answers, and the row then. -/
def rmN (x : List Fl) (p : List UInt8) : Int := if pathB p = true then (if kindL x p = 0 then 3 else if p = [47] ∨ (∃ f ∈ x, dirL f.path = p) then 11 else 0) else 10
open Classical in
theorem rmN_eq (x : List Fl) (p : List UInt8) : rmN x p = if pathB p = true then (if kindL x p = 0 then 3 else if p = [47] ∨ (∃ f ∈ x, dirL f.path = p) then 11 else 0) else 10 := by
  unfold rmN
  congr
def rmL (x : List Fl) (p : List UInt8) : List Fl := if rmN x p = 0 then dropL x p else x
theorem dropL_snoc (x : List Fl) (p : List UInt8) (k : Nat) (f : Fl) (h : x[k]? = some f) : dropL (x.take (k + 1)) p = if f.path = p then dropL (x.take k) p else dropL (x.take k) p ++ [f] := by
  obtain ⟨h1, rfl⟩ := List.getElem?_eq_some_iff.1 h
  unfold dropL
  rw [List.take_succ_eq_append_getElem h1, List.filter_append]
  by_cases q : x[k].path = p
  · rw [if_pos q, List.filter_cons_of_neg (by simpa using q)]; simp
  · rw [if_neg q, List.filter_cons_of_pos (by simpa using q)]; rfl
theorem dropL_le (x : List Fl) (p : List UInt8) (k : Nat) : (dropL (x.take k) p).length ≤ k := by
  unfold dropL
  have := List.length_filter_le (fun f : Fl => !(f.path == p)) (x.take k)
  rw [List.length_take] at this
  omega
set_option maxHeartbeats 3200000 in
theorem refRemove_any (x : List Fl) (v : Value) (p : List UInt8) (w : World) (h : Sl w flC 2 v x) (hx : x.length ≤ 1000000) (hl : p.length ≤ 1073741824) (hxl : ∀ f ∈ x, f.path.length ≤ 1073741824) : Calls Try.prog 38 #[v, .string (B p)] w (MkP v x.length (rmL x p) (rmN x p) w) := by
  obtain ⟨i0, hi0, hz00, hz01, hz02⟩ := info_parts info_file
  have HIP := Lib.hid (refIsPath_any p w hl)
  have HKD := Lib.hid fun W (hW : Below w.heap.size w W) => refKind_any x v p W (h.below hW) (by omega)
  have HDR := Lib.hid refDir_any
  have HS := Lib.hid h
  have HX := Lib.hid hxl
  have hmn : rmN x p = if pathB p = true then (if kindL x p = 0 then 3 else if p = [47] ∨ (∃ f ∈ x, dirL f.path = p) then 11 else 0) else 10 := rfl
  unfold rmL
  generalize rmN x p = nn at hmn ⊢
  obtain ⟨A, c, rfl, hc1, hc2, hn, hA⟩ := h
  have HA := Lib.hid hA
  clear hA hn hc1 hc2 hxl
  cases hp : pathB p with
  | false =>
    rw [hp] at HIP
    rw [hp, if_neg (by simp)] at hmn
    subst hmn
    clear hp
    go_enter Try.func38, Try.ntmps38
    go_wp2_with (go_at_call 26; refine HIP.out.mono ?_; rintro e w1 ⟨rfl, hb⟩; have HB := Lib.hid hb; clear hb)
    go_ret2
    exact ⟨_, rfl, HS.out.below HB.out, HB.out, fun hpos k hk => .inl ⟨hk, hpos⟩⟩
  | true =>
  rw [hp] at HIP
  rw [hp, if_pos rfl] at hmn
  clear hp
  by_cases hk0 : kindL x p = 0
  · rw [hk0] at HKD
    rw [if_pos hk0] at hmn
    subst hmn
    clear hk0
    go_enter Try.func38, Try.ntmps38
    go_wp2_with (first
      | (go_at_call 26; refine HIP.out.mono ?_; rintro e w1 ⟨rfl, hb⟩; have HB := Lib.hid hb; clear hb)
      | (go_at_call 41; (with_reducible refine (HKD.out _ HB.out).mono ?_); rintro e w2 ⟨rfl, rfl⟩))
    go_ret2
    exact ⟨_, rfl, HS.out.below HB.out, HB.out, fun hpos k hk => .inl ⟨hk, hpos⟩⟩
  rw [if_neg hk0] at hmn
  generalize hkk : kindL x p = kk at *
  have e1 : (kk == 0) = false := by simpa using hk0
  clear hk0 hkk
  by_cases q1 : p = [47]
  · subst q1
    rw [if_pos (.inl rfl)] at hmn
    subst hmn
    cases x with
    | nil =>
      simp only [List.length_nil] at HKD
      go_enter Try.func38, Try.ntmps38
      go_wp2_with (first
        | (go_at_call 26; refine HIP.out.mono ?_; rintro e w1 ⟨rfl, hb⟩; have HB := Lib.hid hb; clear hb)
        | (go_at_call 41; (with_reducible refine (HKD.out _ HB.out).mono ?_); rintro e w2 ⟨rfl, rfl⟩))
      refine wp_loop_rounds 1 ?_
      rw [rounds_succ]
      go_wp2
      go_ret2
      exact ⟨_, rfl, HS.out.below HB.out, HB.out, fun hpos k hk => .inl ⟨hk, hpos⟩⟩
    | cons f r =>
      have k1 : (0 : Int) < ((r.length + 1 : Nat) : Int) := by omega
      simp only [List.length_cons] at *
      go_enter Try.func38, Try.ntmps38
      go_wp2_with (first
        | (go_at_call 26; refine HIP.out.mono ?_; rintro e w1 ⟨rfl, hb⟩; have HB := Lib.hid hb; clear hb)
        | (go_at_call 41; (with_reducible refine (HKD.out _ HB.out).mono ?_); rintro e w2 ⟨rfl, rfl⟩))
      refine wp_loop_rounds 1 ?_
      rw [rounds_succ]
      go_wp2
      go_ret2
      exact ⟨_, rfl, HS.out.below HB.out, HB.out, fun hpos k hk => .inl ⟨hk, hpos⟩⟩
  have q2 : (p == [47]) = false := by rw [beq_eq_false_iff_ne]; exact q1
  have HNN := Lib.hid hmn
  have HQ1 := Lib.hid q1
  generalize hres : (if nn = 0 then dropL x p else x) = res
  have HRES := Lib.hid hres
  clear hmn q1 hres
  go_enter Try.func38, Try.ntmps38
  go_wp2_with (first
    | (go_at_call 26; refine HIP.out.mono ?_; rintro e w1 ⟨rfl, hb⟩; have HB1 := Lib.hid hb; clear hb)
    | (go_at_call 41; (with_reducible refine (HKD.out _ HB1.out).mono ?_); rintro e w2 ⟨rfl, rfl⟩))
  go_loopw [6, 7] (fun o i w' => ∃ (k : Nat) (u : Value), u = o ∧ k ≤ x.length ∧ i = .int .i64 k ∧ Hid (Own w' w.heap.size 2 u (dropL (x.take k) p).length ((dropL (x.take k) p).flatMap flC)) ∧ Hid (Below w.heap.size w w') ∧ Hid (∀ j f, x[j]? = some f → j < k → dirL f.path ≠ p)) (fun _ i _ => x.length - (intOf i).toNat)
  case atStart => exact ⟨0, _, rfl, by omega, rfl, Own.nil _ _ _, HB1.out, fun j f _ h => by omega⟩
  case round =>
    obtain ⟨k, u, rfl, hk, rfl, HO, HB, HN⟩ := hrel
    have hbs := HB.out.size
    by_cases hlt : k < x.length
    · obtain ⟨g, off, rfl, hb, hc⟩ := HA.out (by omega)
      obtain ⟨f, hfm⟩ := get_some hlt
      have e0 : wr.cell? ⟨g, off + k * 2, none⟩ = some (.string (B f.path)) := (HB.out.cell (p := ⟨g, off + k * 2, none⟩) hb).trans (by have := hc k _ hfm 0 _ rfl; simpa using this)
      have e3 : wr.cell? ⟨g, off + k * 2 + 1, none⟩ = some (.int .i64 f.kind) := (HB.out.cell (p := ⟨g, off + k * 2 + 1, none⟩) hb).trans (hc k _ hfm 1 _ rfl)
      haveI : Old wr g := ⟨World.block_lt_of_cell? _ _ e0⟩
      have k0 : (0 : Int) ≤ (k : Int) := by omega
      have k1 : (k : Int) < (x.length : Int) := by omega
      have hfl := HX.out f (List.mem_of_getElem? hfm)
      have HSN := Lib.hid (dropL_snoc x p k f hfm)
      have HD := Lib.hid fun W => HDR.out f.path W hfl
      have HFM := Lib.hid hfm
      have hdl := dropL_le x p k
      clear hc hfm
      by_cases r1 : dirL f.path = p
      · have r2 : (dirL f.path == p) = true := by simpa using r1
        have HR : Hid (nn = 11) := by show _ = _; rw [HNN.out, if_pos (.inr ⟨f, List.mem_of_getElem? HFM.out, r1⟩)]
        clear r1
        go_wp2_with (go_at_call 28; refine (HD.out _).mono ?_; rintro e w2 ⟨rfl, rfl⟩)
        go_ret2
        have hres := HRES.out
        rw [HR.out, if_neg (by decide)] at hres
        rw [HR.out, ← hres]
        exact ⟨_, rfl, HS.out.below HB.out, HB.out, fun hpos k hk => .inl ⟨hk, hpos⟩⟩
      · have r2 : (dirL f.path == p) = false := by simpa using r1
        have HN2 : Hid (∀ j f, x[j]? = some f → j < k + 1 → dirL f.path ≠ p) := fun j y hj hjk => by
          by_cases e : j = k
          · subst e; rw [HFM.out] at hj; cases hj; exact r1
          · exact HN.out j y hj (by omega)
        clear r1
        by_cases s1 : f.path = p
        · have s2 : (f.path == p) = true := by simpa using s1
          have HE : Hid (dropL (x.take (k + 1)) p = dropL (x.take k) p) := by show _ = _; rw [HSN.out, if_pos s1]
          clear s1
          go_wp2_with (go_at_call 28; refine (HD.out _).mono ?_; rintro e w2 ⟨rfl, rfl⟩)
          go_roundw
          case rel => exact ⟨k + 1, u, rfl, by omega, by go_num, by show Own _ _ _ _ _ _; rw [HE.out]; exact HO.out, HB.out, HN2.out⟩
          case measure => simp [intOf]; omega
        · have s2 : (f.path == p) = false := by simpa using s1
          have HE : Hid (dropL (x.take (k + 1)) p = dropL (x.take k) p ++ [f]) := by show _ = _; rw [HSN.out, if_neg s1]
          clear s1
          go_wp2_with (first
            | (go_at_call 28; refine (HD.out _).mono ?_; rintro e w2 ⟨rfl, rfl⟩)
            | ((at_builtin; refine wpList_append_src _ rfl (.tmp 43) (.tmp 48) _ rfl w.heap.size 59 i0 _ 2 24 Try.underlying57 hi0 hz00 hz01 hz02 rfl (by decide) _ (dropL (x.take k) p).length ((dropL (x.take k) p).flatMap flC) rfl (HO.out.below (by (repeat (first | exact Below.refl _ _ | assumption | with_reducible refine below_alloc ?_ _ | with_reducible refine below_grow ?_ _ | with_reducible refine below_drewN ?_ _ | with_reducible refine below_drew ?_ | with_reducible refine below_setCell ?_ (by first | (dsimp only; omega) | (simp; done) | (simp; omega)) _)))) _ 1 (flC f) rfl rfl (Src.one _ _ _ _) (by simp [flC, Value.oneCell']) (by unfold maxLen; omega) (by omega) (by first | (simp; done) | omega | (simp; omega)) ?_; intro v2 w2 hown2 hg2 hat2 hty2; have HTY2 := Lib.hid hty2; clear hty2); have HO2 := Lib.hid hown2; have HB2 := Lib.hid (below_keeps (below_alloc HB.out _) hg2 (fun k hk => hk.2)); clear hown2 hg2 hat2))
          go_roundw
          case rel => exact ⟨k + 1, v2, rfl, by omega, by go_num, by show Own _ _ _ _ _ _; rw [HE.out]; simpa [List.flatMap_append] using HO2.out, HB2.out, HN2.out⟩
          case measure => simp [intOf]; omega
    · have hk2 : k = x.length := by omega
      subst hk2
      have d0 := no hlt
      have ho := HO.out
      rw [List.take_length] at ho
      have HO2 := Lib.hid ho
      have HR : Hid (nn = 0) := by
        show _ = _
        rw [HNN.out, if_neg]
        rintro (q | ⟨f, hf, hd⟩)
        · exact HQ1.out q
        · obtain ⟨j, hj⟩ := List.mem_iff_getElem?.1 hf
          exact HN.out j f hj (List.getElem?_eq_some_iff.1 hj).1 hd
      clear hlt ho
      go_wp2
      go_ret2
      have hres := HRES.out
      rw [HR.out, if_pos rfl] at hres
      rw [HR.out, ← hres]
      exact ⟨_, rfl, HO2.out.sl flC_len rfl, HB.out, fun hpos k hk => .inr (own_fresh HO2.out hpos k hk)⟩
end Go.Proofs.Ytkllgikmlgponaa.Fil
