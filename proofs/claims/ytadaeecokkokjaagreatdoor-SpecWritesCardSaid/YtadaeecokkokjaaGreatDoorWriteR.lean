/-
  The walk of the definition's layer 20: Action, Write. Conditions: a right spec of at most 20 actions and words, texts of at most 60 bytes, a name of at most 100.
-/
import Derived.Test.YtadaeecokkokjaaGreatDoorLineW
import Derived.Test.YtadaeecokkokjaaGreatDoorSpecL
set_option linter.unusedSimpArgs false
set_option linter.unusedVariables false
namespace Go.Proofs.YtadaeecokkokjaaGreatDoor.Spc
open Go.ChangeShapes Go.WideShapes Go.Deep Go.RowKit Cls Md Mc Pa Li Pat Quo
set_option linter.unusedSimpArgs false
set_option linter.unusedVariables false
set_option maxRecDepth 100000
theorem refAction_any (a : Nat) (ha : a ≤ 7) (w : World) : Calls Tryz.prog 19 #[.int .i64 a] w fun e w' => e = .returned (.string (B (actNm a))) ∧ w = w' := by
  have h : a = 0 ∨ a = 1 ∨ a = 2 ∨ a = 3 ∨ a = 4 ∨ a = 5 ∨ a = 6 ∨ a = 7 := by omega
  rcases h with rfl | rfl | rfl | rfl | rfl | rfl | rfl | rfl
  all_goals
    go_enter Tryz.func19, Tryz.ntmps19
    go_wp2
    go_ret
    exact ⟨rfl, rfl⟩
/-- The document's line, behind k actions. -/
def rd1 (x : Sp) (k : Nat) : List UInt8 := cmpl ++ (x.a.take k).flatMap fun a => [32, 45, 65, 32] ++ actNm a.toNat
theorem rd1_snoc (x : Sp) (k : Nat) (a : Int) (h : x.a[k]? = some a) : rd1 x (k + 1) = rd1 x k ++ [32, 45, 65, 32] ++ actNm a.toNat := by
  unfold rd1
  rw [List.take_add_one, h, List.flatMap_append]
  simp
theorem actNm_len (k : Nat) : (actNm k).length ≤ 8 := by
  unfold actNm
  rcases Nat.lt_or_ge k 8 with h | h
  · exact (by decide +kernel : ∀ j : Fin 8, (actN.getD j.val []).length ≤ 8) ⟨k, h⟩
  · rw [List.getD_eq_getElem?_getD, List.getElem?_eq_none (by simpa [actN] using h)]; simp
theorem rd1_len (x : Sp) (k : Nat) : (rd1 x k).length ≤ 8 + 12 * x.a.length := by
  have h1 : ∀ l : List Int, (l.flatMap fun a => [32, 45, 65, 32] ++ actNm a.toNat).length ≤ l.length * 12 := by
    intro l
    induction l with
    | nil => simp
    | cons a r ih =>
      have h := actNm_len a.toNat
      have e : ([32, 45, 65, 32] ++ actNm a.toNat).length = 4 + (actNm a.toNat).length := by rw [List.length_append]; rfl
      rw [List.flatMap_cons, List.length_append, List.length_cons, e]
      omega
  have h2 := h1 (x.a.take k)
  have h3 : cmpl.length = 8 := rfl
  unfold rd1
  rw [List.length_append]
  rw [List.length_take] at h2
  omega
def rd2 (x : Sp) : List UInt8 := rd1 x x.a.length ++ if x.w = [] then [] else [32, 45, 87, 32] ++ shortL (lineL x.w)
theorem rd_all (n : List UInt8) (x : Sp) : rd2 x ++ refO [45, 71] x.g ++ refO [45, 88] x.x ++ refO [45, 80] x.p ++ refO [45, 83] x.s ++ [32] ++ n = writeL n x := by
  rw [write_ref]
  unfold rd2 rd1 refW
  rw [List.take_length]
  simp
theorem refO_len {o t : List UInt8} (h1 : o.length = 2) (h2 : t.length ≤ 60) : (refO o t).length ≤ 248 := by
  unfold refO
  have := short_len t
  split
  · simp
  · rw [List.length_cons, List.length_append, List.length_cons]
    omega
theorem refO_no {o t : List UInt8} (h : t = []) : refO o t = [] := by unfold refO; rw [if_pos h]
theorem refO_yes (a b : UInt8) {t : List UInt8} (h : ¬ t = []) : refO [a, b] t = [32, a, b, 32] ++ shortL t := by unfold refO; rw [if_neg h]; rfl
theorem act_is2 {x : Sp} (h : risesB 0 x.a = true) {k : Nat} {a : Int} (hk : x.a[k]? = some a) : a = (a.toNat : Int) ∧ a.toNat ≤ 7 := by
  have := (rises_known h).1 a (List.mem_of_getElem? hk)
  omega
theorem joinB_snoc2 : ∀ (xs : List (List UInt8)) (x : List UInt8), joinB (xs ++ [x]) = if xs = [] then x else joinB xs ++ 32 :: x
  | [], x => rfl
  | [a], x => rfl
  | a :: b :: r, x => by
    have ih := joinB_snoc2 (b :: r) x
    rw [if_neg (by simp)] at ih
    rw [if_neg (by simp), List.cons_append, List.cons_append, joinB_cons, ← List.cons_append, ih, joinB_cons]
    simp
set_option maxHeartbeats 4000000 in
theorem refWrite_any (n : List UInt8) (va vw : Value) (x : Sp) (w : World) (hn : n.length ≤ 100) (ha : Sl w numC 1 va x.a) (hw : Sl w strC 1 vw x.w) (hl : lightB x = true) (hr : risesB 0 x.a = true) :
    Calls Tryz.prog 10 #[.string (B n), spV va vw x] w fun e w' => e = .returned (.string (B (writeL n x))) ∧ Below w.heap.size w w' := by
  have hla : x.a.length ≤ 20 ∧ x.w.length ≤ 20 ∧ x.g.length ≤ 60 ∧ x.x.length ≤ 60 ∧ x.p.length ≤ 60 ∧ x.s.length ≤ 60 ∧ ∀ t ∈ x.w, t.length ≤ 60 := by
    unfold lightB shortB at hl
    simp only [Bool.and_eq_true, decide_eq_true_eq, List.all_eq_true] at hl
    obtain ⟨⟨⟨⟨⟨⟨h1, h2⟩, h3⟩, h4⟩, h5⟩, h6⟩, h7⟩ := hl
    exact ⟨h1, h2, h3, h4, h5, h6, h7⟩
  have HSH := Lib.hid fun (t : List UInt8) (ht : t.length ≤ 20000) W => refShortest_any t W (by omega)
  have hlen : (lineL x.w).length ≤ 4900 := by
    have h1 := lineL_len x.w 60 hla.2.2.2.2.2.2
    have h2 : x.w.length * (4 * 60 + 5) ≤ 20 * 245 := Nat.mul_le_mul hla.2.1 (by omega)
    omega
  have HLL := Lib.hid hlen
  have HLA := Lib.hid hla
  have HACT := Lib.hid fun (k : Nat) (a : Int) (hk : x.a[k]? = some a) => act_is2 hr hk
  have HALL := Lib.hid (rd_all n x)
  generalize writeL n x = wl at *
  have hl1 := hla.1
  have hl2 := hla.2.1
  clear hla hr hl hlen
  obtain ⟨Aa, ca, rfl, -, -, -, hA1⟩ := ha
  obtain ⟨Aw, cw, rfl, -, -, -, hA2⟩ := hw
  have HA1 := Lib.hid hA1
  have HA2 := Lib.hid hA2
  clear hA1 hA2
  have HX := Lib.hid (BoxN.new w [.slice Aa x.a.length ca, .slice Aw x.w.length cw, .string (B x.g), .string (B x.x), .string (B x.p), .string (B x.s)] 25)
  have HB := Lib.hid (below_alloc (Below.refl w.heap.size w) (.cells #[.slice Aa x.a.length ca, .slice Aw x.w.length cw, .string (B x.g), .string (B x.x), .string (B x.p), .string (B x.s)] 25))
  rw [spV_eq]
  go_enter Tryz.func10, Tryz.ntmps10
  go_wp2
  rw [show ({ data := #[] } : ByteArray) = B [] from rfl]
  generalize hW : w.alloc _ = W at *
  have HW := Lib.hid hW
  clear hW
  obtain ⟨⟨c0, c1, c2, c3, c4, c5⟩, -⟩ := box6 HX.out
  haveI : Old W w.heap.size := ⟨HX.out.lt⟩
  rw [show (ByteArray.mk #[99, 111, 109, 112, 108, 101, 116, 101]) = B (rd1 x 0) from rfl]
  go_loopw [5, 6] (fun t i wr => ∃ k : Nat, k ≤ x.a.length ∧ t = .string (B (rd1 x k)) ∧ i = .int .i64 k ∧ Hid (W = wr)) (fun _ i _ => x.a.length - (intOf i).toNat)
  case atStart => exact ⟨0, by omega, rfl, rfl, Lib.hid rfl⟩
  case round =>
    obtain ⟨k, hk, rfl, rfl, HWW⟩ := hrel
    obtain rfl := HWW.out
    clear HWW
    have hwz := HB.out.size
    by_cases hlt : k < x.a.length
    · obtain ⟨b, off, rfl, hb, hcl⟩ := HA1.out (by omega)
      obtain ⟨a, ha⟩ := get_some hlt
      have e0 : W.cell? ⟨b, off + k, none⟩ = some (.int .i64 a) := by
        have := (HB.out.cell (p := ⟨b, off + k * 1 + 0, none⟩) hb).trans (hcl k _ ha 0 _ rfl)
        simpa using this
      obtain ⟨ea, ha7⟩ := HACT.out k a ha
      have HSN := Lib.hid (rd1_snoc x k a ha)
      obtain ⟨m, rfl⟩ : ∃ m : Nat, a = m := ⟨_, ea⟩
      have HAC := Lib.hid fun W => refAction_any m ha7 W
      have hwl := rd1_len x k
      have hql := actNm_len m
      haveI : Old W b := ⟨Nat.lt_of_lt_of_le hb hwz⟩
      have k0 : (0 : Int) ≤ (k : Int) := by omega
      have k1 : (k : Int) < (x.a.length : Int) := by omega
      clear hcl ha ea
      rw [show (m : Int).toNat = m from rfl] at HSN
      generalize actNm m = q at *
      generalize rd1 x k = t0 at *
      have s1 : ¬ 9223372036854775807 < t0.length + 4 := by omega
      have s2 : ¬ 9223372036854775807 < t0.length + 4 + q.length := by omega
      go_wp2_with (go_at_call 19; refine (HAC.out _).mono ?_; rintro e w' ⟨rfl, rfl⟩)
      go_roundw
      case rel => exact ⟨k + 1, by omega, by rw [HSN.out]; simp, by go_num, by first | exact Lib.hid rfl | exact Lib.hid trivial⟩
      case measure => simp [intOf]; omega
    · have hk' : k = x.a.length := by omega
      have k1 : ¬ (k : Int) < (x.a.length : Int) := by omega
      have HD2 := Lib.hid (show rd2 x = rd1 x k ++ if x.w = [] then [] else [32, 45, 87, 32] ++ shortL (lineL x.w) by rw [hk']; rfl)
      have hwl := rd1_len x k
      clear hk' hlt
      generalize rd1 x k = t0 at *
      go_upto_if 28 with fail
      go_cut [5] from 6 to 92 (fun t W1 => t = .string (B (rd2 x)) ∧ W = W1)
      case first =>
        by_cases h0 : x.w = []
        · have q0 : ¬ (0 : Int) < (x.w.length : Int) := by rw [h0]; simp
          rw [if_pos h0, List.append_nil] at HD2
          clear h0
          go_wp2
          go_meet
          exact ⟨by rw [HD2.out], rfl⟩
        · have q0 : (0 : Int) < (x.w.length : Int) := by have := List.length_pos_iff.2 h0; omega
          rw [if_neg h0] at HD2
          clear h0
          go_wp2
          go_loopw [7, 8] (fun u i wr => ∃ k : Nat, k ≤ x.w.length ∧ u = .string (B (joinB ((x.w.take k).map shortL))) ∧ i = .int .i64 k ∧ Hid (W = wr)) (fun _ i _ => x.w.length - (intOf i).toNat)
          case atStart => exact ⟨0, by omega, rfl, rfl, Lib.hid rfl⟩
          case round =>
            obtain ⟨k, hk, rfl, rfl, HWW⟩ := hrel
            obtain rfl := HWW.out
            clear HWW
            by_cases hlt : k < x.w.length
            · have p0 : (0 : Int) ≤ (k : Int) := by omega
              have p1 : (k : Int) < (x.w.length : Int) := by omega
              obtain ⟨b, off, rfl, hb, hcl⟩ := HA2.out (by omega)
              have e0 : W.cell? ⟨b, off + k, none⟩ = some (.string (B x.w[k])) := by
                have := (HB.out.cell (p := ⟨b, off + k * 1 + 0, none⟩) hb).trans (hcl k _ (List.getElem?_eq_getElem hlt) 0 _ rfl)
                simpa using this
              haveI : Old W b := ⟨Nat.lt_of_lt_of_le hb hwz⟩
              clear hcl
              have h60 := HLA.out.2.2.2.2.2.2 x.w[k] (List.getElem_mem hlt)
              have HS := Lib.hid fun W => refShortest_any x.w[k] W (by omega)
              have HX2 := Lib.hid (show joinB ((x.w.take (k + 1)).map shortL) = if (x.w.take k).map shortL = [] then shortL x.w[k] else joinB ((x.w.take k).map shortL) ++ 32 :: shortL x.w[k] by
                rw [List.take_succ_eq_append_getElem hlt, List.map_append]
                exact joinB_snoc2 _ _)
              have hsl := short_len x.w[k]
              have hjl := lineL_len (x.w.take k) 60 (fun t ht => HLA.out.2.2.2.2.2.2 t (List.mem_of_mem_take ht))
              have htk : (x.w.take k).length ≤ 20 := by rw [List.length_take]; omega
              have hmul : (x.w.take k).length * (4 * 60 + 5) ≤ 20 * 245 := Nat.mul_le_mul htk (by omega)
              have hjl2 : (joinB ((x.w.take k).map shortL)).length ≤ 4900 := Nat.le_trans hjl hmul
              have hs1 : ¬ 9223372036854775807 < (joinB ((x.w.take k).map shortL)).length + (shortL x.w[k]).length := by omega
              have hs2 : ¬ 9223372036854775807 < (joinB ((x.w.take k).map shortL)).length + 1 := by omega
              have hs3 : ¬ 9223372036854775807 < (joinB ((x.w.take k).map shortL)).length + 1 + (shortL x.w[k]).length := by omega
              clear hsl hjl hmul htk hjl2 h60
              rcases Nat.eq_zero_or_pos k with rfl | hk0
              · rw [if_pos (by simp)] at HX2
                generalize shortL x.w[0] = q at *
                rw [Nat.add_zero] at e0
                simp only [List.take_zero, List.map_nil] at hs1 hs2 hs3 ⊢
                go_wp2_with (go_at_call 20; refine (HS.out _).mono ?_; rintro e w' ⟨rfl, rfl⟩)
                go_roundw
                case rel =>
                  refine ⟨1, by omega, ?_, rfl, by first | exact Lib.hid rfl | exact Lib.hid trivial⟩
                  rw [HX2.out]
                  simp [joinB]
                case measure => simp [intOf]; omega
              · have q3 : (0 : Int) < (k : Int) := by omega
                rw [if_neg (by
                  intro e
                  have := congrArg List.length e
                  rw [List.length_map, List.length_take, List.length_nil] at this
                  omega)] at HX2
                generalize shortL x.w[k] = q at *
                generalize joinB ((x.w.take k).map shortL) = t1 at *
                go_wp2_with (go_at_call 20; refine (HS.out _).mono ?_; rintro e w' ⟨rfl, rfl⟩)
                go_roundw
                case rel => exact ⟨k + 1, by omega, by rw [HX2.out], by go_num, by first | exact Lib.hid rfl | exact Lib.hid trivial⟩
                case measure => simp [intOf]; omega
            · have hk' : k = x.w.length := by omega
              have p1 : ¬ (k : Int) < (x.w.length : Int) := by omega
              have HS := Lib.hid (HSH.out (lineL x.w) (by have := HLL.out; omega))
              rw [hk', List.take_length, show joinB (x.w.map shortL) = lineL x.w from rfl]
              rw [hk'] at p1
              have hln := HLL.out
              have hsl := short_len (lineL x.w)
              generalize shortL (lineL x.w) = q at *
              generalize lineL x.w = ln at *
              clear hk' hlt hk
              have s1 : ¬ 9223372036854775807 < t0.length + 4 := by omega
              have s2 : ¬ 9223372036854775807 < t0.length + 4 + q.length := by omega
              clear hsl hln
              go_wp2_with (go_at_call 20; refine (HS.out _).mono ?_; rintro e w' ⟨rfl, rfl⟩)
              go_meet
              exact ⟨by rw [HD2.out]; simp, rfl⟩
      case rest =>
      obtain ⟨rfl, rfl⟩ := hcut
      have hd2 : (rd2 x).length ≤ 20000 := by
        have h3 := HLL.out
        have h4 := short_len (lineL x.w)
        rw [HD2.out]
        split <;> simp <;> omega
      have ho0 := HLA.out.2.2.1
      have HO0 := Lib.hid (refO_len (o := [45, 71]) rfl ho0)
      obtain ⟨t0, ht0⟩ : ∃ t, t = rd2 x := ⟨_, rfl⟩
      have HT0 := Lib.hid ht0
      rw [← ht0]
      rw [← ht0] at hd2
      clear ht0
      go_upto_if 55 with fail
      obtain ⟨ge, hge⟩ : ∃ ge, x.g.isEmpty = ge := ⟨_, rfl⟩
      rw [hge]
      have HGE := Lib.hid hge
      clear hge
      go_cut [5] from 6 to 92 (fun t W1 => t = .string (B (t0 ++ refO [45, 71] x.g)) ∧ W = W1)
      case first =>
        cases ge with
        | true =>
          have h0 : x.g = [] := by simpa using HGE.out
          have HR := Lib.hid (refO_no (o := [45, 71]) h0)
          clear h0
          go_wp2
          go_meet
          exact ⟨by rw [HR.out, List.append_nil], rfl⟩
        | false =>
          have h0 : ¬ x.g = [] := by simpa using HGE.out
          have HR := Lib.hid (refO_yes 45 71 h0)
          have HS := Lib.hid (HSH.out x.g (by omega))
          have hsl := short_len x.g
          clear h0
          generalize shortL x.g = q at *
          have s1 : ¬ 9223372036854775807 < t0.length + 4 := by omega
          have s2 : ¬ 9223372036854775807 < t0.length + 4 + q.length := by omega
          clear hsl
          go_wp2_with (go_at_call 20; refine (HS.out _).mono ?_; rintro e w' ⟨rfl, rfl⟩)
          go_meet
          exact ⟨by rw [HR.out]; simp, rfl⟩
      case rest =>
      obtain ⟨rfl, rfl⟩ := hcut
      have hd2 : (t0 ++ refO [45, 71] x.g).length ≤ 20300 := by rw [List.length_append]; have := HO0.out; omega
      have ho1 := HLA.out.2.2.2.1
      have HO1 := Lib.hid (refO_len (o := [45, 88]) rfl ho1)
      obtain ⟨t1, ht1⟩ : ∃ t, t = t0 ++ refO [45, 71] x.g := ⟨_, rfl⟩
      have HT1 := Lib.hid ht1
      rw [← ht1]
      rw [← ht1] at hd2
      clear ht1
      go_upto_if 64 with fail
      obtain ⟨ge, hge⟩ : ∃ ge, x.x.isEmpty = ge := ⟨_, rfl⟩
      rw [hge]
      have HGE := Lib.hid hge
      clear hge
      go_cut [5] from 6 to 92 (fun t W1 => t = .string (B (t1 ++ refO [45, 88] x.x)) ∧ W = W1)
      case first =>
        cases ge with
        | true =>
          have h0 : x.x = [] := by simpa using HGE.out
          have HR := Lib.hid (refO_no (o := [45, 88]) h0)
          clear h0
          go_wp2
          go_meet
          exact ⟨by rw [HR.out, List.append_nil], rfl⟩
        | false =>
          have h0 : ¬ x.x = [] := by simpa using HGE.out
          have HR := Lib.hid (refO_yes 45 88 h0)
          have HS := Lib.hid (HSH.out x.x (by omega))
          have hsl := short_len x.x
          clear h0
          generalize shortL x.x = q at *
          have s1 : ¬ 9223372036854775807 < t1.length + 4 := by omega
          have s2 : ¬ 9223372036854775807 < t1.length + 4 + q.length := by omega
          clear hsl
          go_wp2_with (go_at_call 20; refine (HS.out _).mono ?_; rintro e w' ⟨rfl, rfl⟩)
          go_meet
          exact ⟨by rw [HR.out]; simp, rfl⟩
      case rest =>
      obtain ⟨rfl, rfl⟩ := hcut
      have hd2 : (t1 ++ refO [45, 88] x.x).length ≤ 20600 := by rw [List.length_append]; have := HO1.out; omega
      have ho2 := HLA.out.2.2.2.2.1
      have HO2 := Lib.hid (refO_len (o := [45, 80]) rfl ho2)
      obtain ⟨t2, ht2⟩ : ∃ t, t = t1 ++ refO [45, 88] x.x := ⟨_, rfl⟩
      have HT2 := Lib.hid ht2
      rw [← ht2]
      rw [← ht2] at hd2
      clear ht2
      go_upto_if 73 with fail
      obtain ⟨ge, hge⟩ : ∃ ge, x.p.isEmpty = ge := ⟨_, rfl⟩
      rw [hge]
      have HGE := Lib.hid hge
      clear hge
      go_cut [5] from 6 to 92 (fun t W1 => t = .string (B (t2 ++ refO [45, 80] x.p)) ∧ W = W1)
      case first =>
        cases ge with
        | true =>
          have h0 : x.p = [] := by simpa using HGE.out
          have HR := Lib.hid (refO_no (o := [45, 80]) h0)
          clear h0
          go_wp2
          go_meet
          exact ⟨by rw [HR.out, List.append_nil], rfl⟩
        | false =>
          have h0 : ¬ x.p = [] := by simpa using HGE.out
          have HR := Lib.hid (refO_yes 45 80 h0)
          have HS := Lib.hid (HSH.out x.p (by omega))
          have hsl := short_len x.p
          clear h0
          generalize shortL x.p = q at *
          have s1 : ¬ 9223372036854775807 < t2.length + 4 := by omega
          have s2 : ¬ 9223372036854775807 < t2.length + 4 + q.length := by omega
          clear hsl
          go_wp2_with (go_at_call 20; refine (HS.out _).mono ?_; rintro e w' ⟨rfl, rfl⟩)
          go_meet
          exact ⟨by rw [HR.out]; simp, rfl⟩
      case rest =>
      obtain ⟨rfl, rfl⟩ := hcut
      have hd2 : (t2 ++ refO [45, 80] x.p).length ≤ 20900 := by rw [List.length_append]; have := HO2.out; omega
      have ho3 := HLA.out.2.2.2.2.2.1
      have HO3 := Lib.hid (refO_len (o := [45, 83]) rfl ho3)
      obtain ⟨t3, ht3⟩ : ∃ t, t = t2 ++ refO [45, 80] x.p := ⟨_, rfl⟩
      have HT3 := Lib.hid ht3
      rw [← ht3]
      rw [← ht3] at hd2
      clear ht3
      go_upto_if 82 with fail
      obtain ⟨ge, hge⟩ : ∃ ge, x.s.isEmpty = ge := ⟨_, rfl⟩
      rw [hge]
      have HGE := Lib.hid hge
      clear hge
      go_cut [5] from 6 to 92 (fun t W1 => t = .string (B (t3 ++ refO [45, 83] x.s)) ∧ W = W1)
      case first =>
        cases ge with
        | true =>
          have h0 : x.s = [] := by simpa using HGE.out
          have HR := Lib.hid (refO_no (o := [45, 83]) h0)
          clear h0
          go_wp2
          go_meet
          exact ⟨by rw [HR.out, List.append_nil], rfl⟩
        | false =>
          have h0 : ¬ x.s = [] := by simpa using HGE.out
          have HR := Lib.hid (refO_yes 45 83 h0)
          have HS := Lib.hid (HSH.out x.s (by omega))
          have hsl := short_len x.s
          clear h0
          generalize shortL x.s = q at *
          have s1 : ¬ 9223372036854775807 < t3.length + 4 := by omega
          have s2 : ¬ 9223372036854775807 < t3.length + 4 + q.length := by omega
          clear hsl
          go_wp2_with (go_at_call 20; refine (HS.out _).mono ?_; rintro e w' ⟨rfl, rfl⟩)
          go_meet
          exact ⟨by rw [HR.out]; simp, rfl⟩
      case rest =>
      obtain ⟨rfl, rfl⟩ := hcut
      have hd2 : (t3 ++ refO [45, 83] x.s).length ≤ 21200 := by rw [List.length_append]; have := HO3.out; omega
      have HQ := Lib.hid (show wl = (t3 ++ refO [45, 83] x.s) ++ [32] ++ n by rw [← HALL.out, HT3.out, HT2.out, HT1.out, HT0.out])
      generalize t3 ++ refO [45, 83] x.s = t4 at *
      have s1 : ¬ 9223372036854775807 < t4.length + 1 := by omega
      have s2 : ¬ 9223372036854775807 < t4.length + 1 + n.length := by omega
      go_wp2
      go_ret
      exact ⟨by rw [HQ.out, List.append_assoc]; rfl, HB.out⟩
end Go.Proofs.YtadaeecokkokjaaGreatDoor.Spc
