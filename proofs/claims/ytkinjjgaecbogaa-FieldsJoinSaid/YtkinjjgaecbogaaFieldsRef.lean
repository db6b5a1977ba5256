/-
  The walks of the document's answers of layers 4 and 26 (is a byte in a text; fields). Conditions: texts of at most 2^32 bytes, at most 2^32 units.
-/
import Derived.Test.YtkinjjgaecbogaaFields8
namespace Go.Proofs.Ytkinjjgaecbogaa
open Go.ChangeShapes Go.WideShapes Go.Deep Go.RowKit
set_option maxRecDepth 100000
theorem u8_ne {a b : UInt8} (h : a ≠ b) : ((a.toNat : Int) == (b.toNat : Int)) = false := by
  rw [beq_eq_false_iff_ne]
  intro e
  exact h (UInt8.toNat_inj.1 (by omega))
theorem in_any (b : UInt8) (s : List UInt8) (w : World) (hs : s.length ≤ 4294967296) : Calls Try.prog 34 #[.int .u8 b.toNat, .string (B s)] w fun e w' => e = .returned (.bool (s.contains b)) ∧ w = w' := by
  obtain ⟨r, hr⟩ : ∃ r, r = s.contains b := ⟨_, rfl⟩
  rw [← hr]
  have HRR := Lib.hid hr
  clear hr
  go_enter Try.func34, Try.ntmps34
  go_wp2
  go_loop [5] (fun i => ∃ k : Nat, k ≤ s.length ∧ i = .int .i64 k ∧ Hid ((s.take k).contains b = false)) (fun i => s.length - (intOf i).toNat)
  case atStart => exact ⟨0, by omega, rfl, rfl⟩
  case round =>
    obtain ⟨k, hk, rfl, HR⟩ := hrel
    by_cases hlt : k < s.length
    · have HT := Lib.hid (show s.take (k + 1) = s.take k ++ [s[k]] by rw [List.take_succ_eq_append_getElem hlt])
      have HM := Lib.hid (List.getElem_mem hlt)
      by_cases hx : s[k] = b
      · have HX := Lib.hid hx
        have hx' : ((s[k].toNat : Int) == (b.toNat : Int)) = true := by rw [hx]; simp
        clear hx
        go_wp2
        go_ret
        refine ⟨?_, rfl⟩
        have : s.contains b = true := by rw [List.contains_iff_mem, ← HX.out]; exact HM.out
        rw [HRR.out, this]; rfl
      · have hx' := u8_ne hx
        have HX := Lib.hid hx
        clear hx
        go_wp2
        go_round
        case rel => exact ⟨k + 1, by omega, by go_num, by
          show _ = false
          rw [HT.out, List.contains_append, HR.out, Bool.false_or]
          simpa using fun e => HX.out e.symm⟩
        case measure => simp [intOf]; omega
    · have hk' : k = s.length := by omega
      have h := HR.out
      rw [hk', List.take_length] at h
      have H := Lib.hid h
      clear h HR hk'
      go_wp2
      go_ret
      exact ⟨by rw [HRR.out, H.out]; rfl, rfl⟩
/-- What holds at every round of the reference's Split. -/
structure RefI (w : World) (fb : Nat) (o : Value) (m : Mk) (wr : World) : Prop where
  ge : w.heap.size ≤ fb
  lt : fb < wr.heap.size
  c0 : wr.cell? ⟨fb, 0, none⟩ = some (.string (B m.text))
  c1 : wr.cell? ⟨fb, 1, none⟩ = some (.string (B m.pat))
  f0 : ∀ j, wr.frozen? ⟨fb, j, none⟩ = false
  own : Own wr w.heap.size 2 o m.l.length (m.l.flatMap Fd.cells)
  ne : o.ownBlock ≠ some fb
  bl : Below w.heap.size w wr
theorem RefI.below {w wr W : World} {fb : Nat} {o : Value} {m : Mk} (h : RefI w fb o m wr) (hb : Below wr.heap.size wr W) : RefI w fb o m W := by
  have e := hb.block fb h.lt
  exact ⟨h.ge, Nat.lt_of_lt_of_le h.lt hb.size, (World.cell?_of_block (w := wr) e).trans h.c0, (World.cell?_of_block (w := wr) e).trans h.c1, fun j => (World.frozen?_of_block (w := wr) e).trans (h.f0 j), h.own.below hb, h.ne, h.bl.trans (hb.mono h.bl.size)⟩
theorem RefI.keepF {w wr : World} {fb : Nat} {o : Value} {m : Mk} (h : RefI w fb o m wr) (j : Nat) (x : Value) : Own (wr.setCell ⟨fb, j, none⟩ x) w.heap.size 2 o m.l.length (m.l.flatMap Fd.cells) ∧ Below w.heap.size w (wr.setCell ⟨fb, j, none⟩ x) :=
  ⟨h.own.keeps (Keeps.setCell (F := fun k => k = fb) wr (a := ⟨fb, j, none⟩) rfl x) (fun k e _ hf => h.ne (by rw [e, hf])), below_setCell h.bl h.ge _⟩
theorem RefI.set0 {w wr : World} {fb : Nat} {o : Value} {m : Mk} (h : RefI w fb o m wr) (x : List UInt8) : RefI w fb o { m with text := x } (wr.setCell ⟨fb, 0, none⟩ (.string (B x))) :=
  ⟨h.ge, by simpa [World.setCell] using h.lt, World.cell?_setCell_same' _ _ _ (by rw [h.c0]; rfl), (World.cell?_setCell_other _ _ _ _ (by simp)).trans h.c1, fun j => (World.frozen?_setCell _ _ _ _).trans (h.f0 j), (h.keepF 0 _).1, h.ne, (h.keepF 0 _).2⟩
theorem RefI.set1 {w wr : World} {fb : Nat} {o : Value} {m : Mk} (h : RefI w fb o m wr) (x : List UInt8) : RefI w fb o { m with pat := x } (wr.setCell ⟨fb, 1, none⟩ (.string (B x))) :=
  ⟨h.ge, by simpa [World.setCell] using h.lt, (World.cell?_setCell_other _ _ _ _ (by simp)).trans h.c0, World.cell?_setCell_same' _ _ _ (by rw [h.c1]; rfl), fun j => (World.frozen?_setCell _ _ _ _).trans (h.f0 j), (h.keepF 1 _).1, h.ne, (h.keepF 1 _).2⟩
theorem RefI.flags {w wr : World} {fb : Nat} {o : Value} {m : Mk} (h : RefI w fb o m wr) (g k : Bool) : RefI w fb o { m with begun := g, mark := k } wr := ⟨h.ge, h.lt, h.c0, h.c1, h.f0, h.own, h.ne, h.bl⟩
theorem RefI.app {w wr W : World} {fb : Nat} {o o' : Value} {m : Mk} {l' : List Fd} (h : RefI w fb o m wr) (ho : Own W w.heap.size 2 o' l'.length (l'.flatMap Fd.cells)) (hk : Keeps (fun k => o.ownBlock = some k ∧ w.heap.size ≤ k) wr W)
    (hat : o'.ownBlock = o.ownBlock ∨ ∀ k, o'.ownBlock = some k → wr.heap.size ≤ k) : RefI w fb o' { m with l := l' } W := by
  have e := hk.block fb h.lt (fun hf => h.ne hf.1)
  refine ⟨h.ge, Nat.lt_of_lt_of_le h.lt hk.size, (World.cell?_of_block (w := wr) e).trans h.c0, (World.cell?_of_block (w := wr) e).trans h.c1, fun j => (World.frozen?_of_block (w := wr) e).trans (h.f0 j), ho, fun e => ?_, below_keeps h.bl hk (fun k hk => hk.2)⟩
  rcases hat with e1 | e1
  · exact h.ne (e1 ▸ e)
  · have := e1 _ e; have := h.lt; omega
set_option maxHeartbeats 6400000 in
theorem refSplit_any (v : Value) (l : List Piece) (sp : List UInt8) (w : World) (hv : Sl w Piece.cells 3 v l) (hl : l.length ≤ 4294967296) (hlt : ∀ p ∈ l, p.text.length ≤ 4294967296) (hu : (unitsOf l).length ≤ 4294967296) (hsp : sp.length ≤ 4294967296) :
    Calls Try.prog 32 #[v, .string (B sp)] w (SplitPost (splitF l sp) w) := by
  obtain ⟨i2, hi2, hz20, hz21, hz22⟩ := info_parts info_fd
  obtain ⟨A, c, rfl, hc1, hc2, hn0, hA⟩ := hv
  have HA := Lib.hid hA
  have HU := Lib.hid hu
  have HPL := Lib.hid hlt
  clear hA hn0 hu hlt
  go_enter Try.func32, Try.ntmps32
  go_wp2
  go_loopw [5, 7, 8, 9] (fun o1 g mk i wr => ∃ (k : Nat) (m : Mk) (o : Value), k ≤ l.length ∧ o = o1 ∧ i = .int .i64 k ∧ g = .bool m.begun ∧ mk = .bool m.mark ∧ Hid (m = foldM sp (unitsOf (l.take k))) ∧ Hid (RefI w w.heap.size o m wr)) (fun _ _ _ i _ => l.length - (intOf i).toNat)
  case atStart =>
    refine ⟨0, mk0, _, by omega, rfl, rfl, rfl, rfl, rfl, ⟨Nat.le_refl _, by simp, by go_simp; rfl, by go_simp; rfl, fun j => by simp [go_sem], Own.nil _ _ _, by simp [Value.ownBlock], by (repeat (first | exact Below.refl _ _ | assumption | with_reducible refine below_alloc ?_ _ | with_reducible refine below_grow ?_ _ | with_reducible refine below_drewN ?_ _ | with_reducible refine below_drew ?_ | with_reducible refine below_setCell ?_ (by first | (dsimp only; omega) | (simp; done) | (simp; omega)) _))⟩⟩
  case round =>
    obtain ⟨k, m, o, hk, rfl, rfl, rfl, rfl, HM, HI⟩ := hrel
    have hok := mk_ok sp (unitsOf (l.take k))
    rw [← HM.out] at hok
    have hpre := (unitsOf_pre l k).length_le
    have hU := HU.out
    by_cases hlt : k < l.length
    · obtain ⟨b, off, rfl, hb, hc⟩ := HA.out (by omega)
      obtain ⟨p, hp⟩ := get_some hlt
      have hbl := HI.out.bl
      have hge := HI.out.ge
      have e0 : wr.cell? ⟨b, off + k * 3, none⟩ = some (.bool p.ex) := (hbl.cell (p := ⟨b, _, none⟩) hb).trans (hc k _ hp 0 _ rfl)
      have e1 : wr.cell? ⟨b, off + k * 3 + 1, none⟩ = some (.bool p.q) := (hbl.cell (p := ⟨b, _, none⟩) hb).trans (hc k _ hp 1 _ rfl)
      have e2 : wr.cell? ⟨b, off + k * 3 + 2, none⟩ = some (.string (B p.text)) := (hbl.cell (p := ⟨b, _, none⟩) hb).trans (hc k _ hp 2 _ rfl)
      have hpt := HPL.out p (List.mem_of_getElem? hp)
      have HS := Lib.hid (unitsOf_snoc l k p hp)
      have hpre1 := (unitsOf_pre l (k + 1)).length_le
      have HCC : Hid (∀ W, Below w.heap.size w W → W.cell? ⟨b, off + k * 3, none⟩ = some (.bool p.ex) ∧ W.cell? ⟨b, off + k * 3 + 1, none⟩ = some (.bool p.q) ∧ W.cell? ⟨b, off + k * 3 + 2, none⟩ = some (.string (B p.text))) := fun W hW => ⟨(hW.cell (p := ⟨b, _, none⟩) hb).trans (hc k _ hp 0 _ rfl), (hW.cell (p := ⟨b, _, none⟩) hb).trans (hc k _ hp 1 _ rfl), (hW.cell (p := ⟨b, _, none⟩) hb).trans (hc k _ hp 2 _ rfl)⟩
      clear hc hp hok
      obtain ⟨ex, q, text⟩ := p
      simp only at e0 e1 e2 hpt
      by_cases htn : text = []
      · subst htn
        have hz : ([] : List UInt8).length = 0 := rfl
        cases q with
        | true =>
          have HM1 : Hid ({ m with begun := true, mark := false } = foldM sp (unitsOf (l.take (k + 1)))) := by
            show _ = _
            rw [HS.out]
            simp only [unitsP, headU, and_self, if_true, List.map_nil, List.append_nil]
            rw [foldM_snoc, ← HM.out]
            simp [stepM, addM]
          have HI1 : Hid (RefI w w.heap.size o { m with begun := true, mark := false } wr) := HI.out.flags true false
          clear HM HI
          go_wp2
          go_loopw [5, 7, 8, 10] (fun o' g mk i wr' => i = .int .i64 0 ∧ o' = o ∧ g = .bool true ∧ mk = .bool false ∧ wr' = wr) (fun _ _ _ _ _ => 0)
          case atStart => exact ⟨rfl, rfl, rfl, rfl, rfl⟩
          case round =>
            obtain ⟨rfl, rfl, rfl, rfl, rfl⟩ := hrel
            go_wp2
            go_roundw
            case rel => exact ⟨k + 1, _, _, by omega, rfl, by go_num, rfl, rfl, HM1.out, HI1.out⟩
            case measure => simp [intOf]; omega
        | false =>
          have HM1 : Hid (m = foldM sp (unitsOf (l.take (k + 1)))) := by
            show _ = _
            rw [HS.out]
            simp only [unitsP, headU, Bool.false_eq_true, and_false, if_false, List.map_nil, List.append_nil]
            exact HM.out
          clear HM
          go_wp2
          go_loopw [5, 7, 8, 10] (fun o' g mk i wr' => i = .int .i64 0 ∧ o' = o ∧ g = .bool m.begun ∧ mk = .bool m.mark ∧ wr' = wr) (fun _ _ _ _ _ => 0)
          case atStart => exact ⟨rfl, rfl, rfl, rfl, rfl⟩
          case round =>
            obtain ⟨rfl, rfl, rfl, rfl, rfl⟩ := hrel
            go_wp2
            go_roundw
            case rel => exact ⟨k + 1, _, _, by omega, rfl, by go_num, rfl, rfl, HM1.out, HI.out⟩
            case measure => simp [intOf]; omega
      · have ht1 : (text == []) = false := by simpa using htn
        have ht2 : text.isEmpty = false := by simpa using htn
        have hlen : decide (text.length = 0) = false := no (by intro e; exact htn (List.eq_nil_of_length_eq_zero e))
        have HX : Hid (unitsP ⟨ex, q, text⟩ = text.map (byteU ⟨ex, q, text⟩)) := by show _ = _; unfold unitsP headU; rw [if_neg (by simp [htn])]; rfl
        have HN := Lib.hid htn
        clear htn
        go_wp2
        go_loopw [5, 7, 8, 10] (fun o1 g mk i wr => ∃ (j : Nat) (m : Mk) (o : Value), j ≤ text.length ∧ o = o1 ∧ i = .int .i64 j ∧ g = .bool m.begun ∧ mk = .bool m.mark ∧ Hid (m = foldM sp (unitsOf (l.take k) ++ (text.take j).map (byteU ⟨ex, q, text⟩))) ∧ Hid (RefI w w.heap.size o m wr)) (fun _ _ _ i _ => text.length - (intOf i).toNat)
        case atStart => exact ⟨0, m, o, by omega, rfl, rfl, rfl, rfl, by show _ = _; simpa using HM.out, HI.out⟩
        case round =>
          clear HM HI hbl hge e0 e1 e2
          obtain ⟨j, m, o, hj, rfl, rfl, rfl, rfl, HM, HI⟩ := hrel
          have hbl := HI.out.bl
          have hge := HI.out.ge
          obtain ⟨e0, e1, e2⟩ := HCC.out _ hbl
          by_cases hltj : j < text.length
          · have hok := mk_ok sp (unitsOf (l.take k) ++ (text.take j).map (byteU ⟨ex, q, text⟩))
            rw [← HM.out] at hok
            have hpre2 : (unitsOf (l.take k) ++ (text.take j).map (byteU ⟨ex, q, text⟩)).length ≤ 4294967296 := by
              have h1 := hpre1
              rw [HS.out, HX.out] at h1
              simp only [List.length_append, List.length_map, List.length_take] at h1 ⊢
              omega
            have htl : m.text.length ≤ 4294967296 := by have := hok.t; omega
            have hpl : m.pat.length ≤ 8589934592 := by have := hok.p; omega
            have hll : m.l.length ≤ 4294967296 := by have := hok.l; omega
            have HE := Lib.hid hok.e
            have HT := Lib.hid (take_snoc1 (List.getElem?_eq_getElem hltj))
            have hone := one_at text j hltj
            have c0 := HI.out.c0
            have c1 := HI.out.c1
            have f0 := HI.out.f0
            have hj0 : (0 : Int) ≤ (j : Int) := by omega
            have hj1 : (j : Int) < (text.length : Int) := by omega
            have hi0 : (0 : Int) ≤ (k : Int) := by omega
            have hi1 : (k : Int) < (l.length : Int) := by omega
            haveI : Old wr b := ⟨Nat.lt_of_lt_of_le hb hbl.size⟩
            haveI : Old wr w.heap.size := ⟨HI.out.lt⟩
            have HIN := Lib.hid (in_any text[j] sp wr hsp)
            have HM1 : Hid (foldM sp (unitsOf (l.take k) ++ (text.take (j + 1)).map (byteU ⟨ex, q, text⟩)) = stepM sp m (byteU ⟨ex, q, text⟩ text[j])) := by
              show _ = _
              rw [HT.out, List.map_append, ← List.append_assoc]
              simp only [List.map_cons, List.map_nil]
              rw [foldM_snoc, ← HM.out]
            have hwz := hbl.size
            clear hok hpre2 hpre1 hpre hU HM HT hbl
            generalize hxj : text[j] = x at *
            cases ex with
            | false =>
              cases q with
              | false =>
                have HQ : Hid (stepM sp m (byteU ⟨false, false, text⟩ x) = addM m (byteU ⟨false, false, text⟩ x)) := by show _ = _; simp [stepM, byteU]
                go_wp2
                (refine wp_region_grow_tail 12 (by kernel_rfl) (by kernel_rfl) ?_; simp only [List.take_succ_cons, List.take_zero, List.drop_succ_cons, List.drop_zero]; (repeat (go_big_quiet_step (fail))); refine wpQuiet_nil ?_; intro _ hw'; obtain ⟨gq, hw''⟩ := hw'; subst hw'')
                go_wp2
                (refine wp_region_grow_tail 12 (by kernel_rfl) (by kernel_rfl) ?_; simp only [List.take_succ_cons, List.take_zero, List.drop_succ_cons, List.drop_zero]; (repeat (go_big_quiet_step (fail))); refine wpQuiet_nil ?_; intro _ hw'; obtain ⟨gq, hw''⟩ := hw'; subst hw'')
                go_wp2
                go_roundw
                case rel =>
                  refine ⟨j + 1, addM m (byteU ⟨false, false, text⟩ x), o, by omega, rfl, by go_num, rfl, rfl, by show _ = _; rw [HM1.out, HQ.out], ?_⟩
                  exact (((HI.out.set1 (m.pat ++ [x])).set0 (m.text ++ [x])).flags true false).below (grow_below _ _)
                case measure => simp [intOf]; omega
              | true =>
                have HQ : Hid (stepM sp m (byteU ⟨false, true, text⟩ x) = addM m (byteU ⟨false, true, text⟩ x)) := by show _ = _; simp [stepM, byteU]
                go_wp2
                (refine wp_region_grow_tail 12 (by kernel_rfl) (by kernel_rfl) ?_; simp only [List.take_succ_cons, List.take_zero, List.drop_succ_cons, List.drop_zero]; (repeat (go_big_quiet_step (fail))); refine wpQuiet_nil ?_; intro _ hw'; obtain ⟨gq, hw''⟩ := hw'; subst hw'')
                go_wp2
                (refine wp_region_grow_tail 12 (by kernel_rfl) (by kernel_rfl) ?_; simp only [List.take_succ_cons, List.take_zero, List.drop_succ_cons, List.drop_zero]; (repeat (go_big_quiet_step (fail))); refine wpQuiet_nil ?_; intro _ hw'; obtain ⟨gq, hw''⟩ := hw'; subst hw'')
                go_wp2
                go_roundw
                case rel =>
                  refine ⟨j + 1, addM m (byteU ⟨false, true, text⟩ x), o, by omega, rfl, by go_num, rfl, rfl, by show _ = _; rw [HM1.out, HQ.out], ?_⟩
                  exact ((((HI.out.set1 (m.pat ++ [92])).set1 (m.pat ++ [92, x])).set0 (m.text ++ [x])).flags true false).below (grow_below _ _)
                case measure => simp [intOf]; omega
            | true =>
              cases q with
              | true =>
                have HQ : Hid (stepM sp m (byteU ⟨true, true, text⟩ x) = addM m (byteU ⟨true, true, text⟩ x)) := by show _ = _; simp [stepM, byteU]
                go_wp2
                (refine wp_region_grow_tail 12 (by kernel_rfl) (by kernel_rfl) ?_; simp only [List.take_succ_cons, List.take_zero, List.drop_succ_cons, List.drop_zero]; (repeat (go_big_quiet_step (fail))); refine wpQuiet_nil ?_; intro _ hw'; obtain ⟨gq, hw''⟩ := hw'; subst hw'')
                go_wp2
                (refine wp_region_grow_tail 12 (by kernel_rfl) (by kernel_rfl) ?_; simp only [List.take_succ_cons, List.take_zero, List.drop_succ_cons, List.drop_zero]; (repeat (go_big_quiet_step (fail))); refine wpQuiet_nil ?_; intro _ hw'; obtain ⟨gq, hw''⟩ := hw'; subst hw'')
                go_wp2
                go_roundw
                case rel =>
                  refine ⟨j + 1, addM m (byteU ⟨true, true, text⟩ x), o, by omega, rfl, by go_num, rfl, rfl, by show _ = _; rw [HM1.out, HQ.out], ?_⟩
                  exact ((((HI.out.set1 (m.pat ++ [92])).set1 (m.pat ++ [92, x])).set0 (m.text ++ [x])).flags true false).below (grow_below _ _)
                case measure => simp [intOf]; omega
              | false =>
                cases hc : sp.contains x with
                | false =>
                  rw [hc] at HIN
                  have HQ : Hid (stepM sp m (byteU ⟨true, false, text⟩ x) = addM m (byteU ⟨true, false, text⟩ x)) := by show _ = _; simp only [stepM, byteU, hc]; simp
                  clear hc
                  go_wp2_with ((go_at_call 34; refine (HIN.out).mono ?_; rintro e w' ⟨rfl, rfl⟩))
                  (refine wp_region_grow_tail 12 (by kernel_rfl) (by kernel_rfl) ?_; simp only [List.take_succ_cons, List.take_zero, List.drop_succ_cons, List.drop_zero]; (repeat (go_big_quiet_step (fail))); refine wpQuiet_nil ?_; intro _ hw'; obtain ⟨gq, hw''⟩ := hw'; subst hw'')
                  go_wp2
                  (refine wp_region_grow_tail 12 (by kernel_rfl) (by kernel_rfl) ?_; simp only [List.take_succ_cons, List.take_zero, List.drop_succ_cons, List.drop_zero]; (repeat (go_big_quiet_step (fail))); refine wpQuiet_nil ?_; intro _ hw'; obtain ⟨gq, hw''⟩ := hw'; subst hw'')
                  go_wp2
                  go_roundw
                  case rel =>
                    refine ⟨j + 1, addM m (byteU ⟨true, false, text⟩ x), o, by omega, rfl, by go_num, rfl, rfl, by show _ = _; rw [HM1.out, HQ.out], ?_⟩
                    exact (((HI.out.set1 (m.pat ++ [x])).set0 (m.text ++ [x])).flags true false).below (grow_below _ _)
                  case measure => simp [intOf]; omega
                | true =>
                  rw [hc] at HIN
                  have HQ : Hid (stepM sp m (byteU ⟨true, false, text⟩ x) = sepM m (whiteB x)) := by show _ = _; simp only [stepM, byteU, hc]; simp
                  clear hc
                  have h32 := u8eq32 x
                  have h9 := u8eq9 x
                  have h10 := u8eq10 x
                  have HW : Hid (whiteB x = (x == 32 || x == 9 || x == 10)) := rfl
                  cases e32 : x == 32 with
                  | true =>
                    rw [e32] at h32 HW
                    simp only [Bool.true_or] at HW
                    clear h9 h10 e32
                    cases hb : m.begun with
                    | true =>
                      have HY : Hid (stepM sp m (byteU ⟨true, false, text⟩ x) = { endM m with mark := true }) := by show _ = _; rw [HQ.out, HW.out]; simp [sepM, hb]
                      go_wp2_with (first | (go_at_call 34; refine (HIN.out).mono ?_; rintro e w' ⟨rfl, rfl⟩) | ((at_builtin; refine wpList_append_src _ rfl (.tmp 116) (.tmp 118) _ rfl w.heap.size 54 i2 _ 2 32 Try.underlying47 hi2 hz20 hz21 hz22 rfl (by decide) _ m.l.length (m.l.flatMap Fd.cells) rfl (HI.out.own.below (below_alloc (Below.refl _ _) _)) _ 1 [.string (B m.text), .string (B m.pat)] rfl rfl (src_one _ _ _ _ _ (by first | rfl | (simp; done) | omega)) (by simp [Value.oneCell']) (by unfold maxLen; omega) (by omega) (by first | (simp; done) | omega | (simp; omega)) ?_; intro v1 w1 hown1 hg1 hat1 hty1; have HTY1 := Lib.hid hty1; clear hty1); have h1 := (HI.out.below (below_alloc (Below.refl _ _) _)).app (own_snocF hown1) hg1 hat1; have c10 := h1.c0; have c11 := h1.c1; have f1 := h1.f0; haveI : Old w1 w.heap.size := ⟨h1.lt⟩; have H1 := Lib.hid h1; clear hown1 hg1 hat1 h1))
                      go_roundw
                      case rel => exact ⟨j + 1, { endM m with mark := true }, v1, by omega, rfl, by go_num, rfl, rfl, by show _ = _; rw [HM1.out, HY.out], ((H1.out.set0 []).set1 []).flags false true⟩
                      case measure => simp [intOf]; omega
                    | false =>
                      have HY : Hid (stepM sp m (byteU ⟨true, false, text⟩ x) = m) := by show _ = _; rw [HQ.out, HW.out]; simp [sepM, hb]
                      go_wp2_with ((go_at_call 34; refine (HIN.out).mono ?_; rintro e w' ⟨rfl, rfl⟩))
                      go_roundw
                      case rel => exact ⟨j + 1, m, o, by omega, rfl, by go_num, by rw [hb], rfl, by show _ = _; rw [HM1.out, HY.out], HI.out⟩
                      case measure => simp [intOf]; omega
                  | false =>
                    rw [e32] at h32 HW
                    cases e9 : x == 9 with
                    | true =>
                      rw [e9] at h9 HW
                      simp only [Bool.false_or, Bool.true_or] at HW
                      clear h10 e32 e9
                      cases hb : m.begun with
                      | true =>
                        have HY : Hid (stepM sp m (byteU ⟨true, false, text⟩ x) = { endM m with mark := true }) := by show _ = _; rw [HQ.out, HW.out]; simp [sepM, hb]
                        go_wp2_with (first | (go_at_call 34; refine (HIN.out).mono ?_; rintro e w' ⟨rfl, rfl⟩) | ((at_builtin; refine wpList_append_src _ rfl (.tmp 116) (.tmp 118) _ rfl w.heap.size 54 i2 _ 2 32 Try.underlying47 hi2 hz20 hz21 hz22 rfl (by decide) _ m.l.length (m.l.flatMap Fd.cells) rfl (HI.out.own.below (below_alloc (Below.refl _ _) _)) _ 1 [.string (B m.text), .string (B m.pat)] rfl rfl (src_one _ _ _ _ _ (by first | rfl | (simp; done) | omega)) (by simp [Value.oneCell']) (by unfold maxLen; omega) (by omega) (by first | (simp; done) | omega | (simp; omega)) ?_; intro v1 w1 hown1 hg1 hat1 hty1; have HTY1 := Lib.hid hty1; clear hty1); have h1 := (HI.out.below (below_alloc (Below.refl _ _) _)).app (own_snocF hown1) hg1 hat1; have c10 := h1.c0; have c11 := h1.c1; have f1 := h1.f0; haveI : Old w1 w.heap.size := ⟨h1.lt⟩; have H1 := Lib.hid h1; clear hown1 hg1 hat1 h1))
                        go_roundw
                        case rel => exact ⟨j + 1, { endM m with mark := true }, v1, by omega, rfl, by go_num, rfl, rfl, by show _ = _; rw [HM1.out, HY.out], ((H1.out.set0 []).set1 []).flags false true⟩
                        case measure => simp [intOf]; omega
                      | false =>
                        have HY : Hid (stepM sp m (byteU ⟨true, false, text⟩ x) = m) := by show _ = _; rw [HQ.out, HW.out]; simp [sepM, hb]
                        go_wp2_with ((go_at_call 34; refine (HIN.out).mono ?_; rintro e w' ⟨rfl, rfl⟩))
                        go_roundw
                        case rel => exact ⟨j + 1, m, o, by omega, rfl, by go_num, by rw [hb], rfl, by show _ = _; rw [HM1.out, HY.out], HI.out⟩
                        case measure => simp [intOf]; omega
                    | false =>
                      rw [e9] at h9 HW
                      simp only [Bool.false_or] at HW
                      cases e10 : x == 10 with
                      | true =>
                        rw [e10] at h10 HW
                        clear e32 e9 e10
                        cases hb : m.begun with
                        | true =>
                          have HY : Hid (stepM sp m (byteU ⟨true, false, text⟩ x) = { endM m with mark := true }) := by show _ = _; rw [HQ.out, HW.out]; simp [sepM, hb]
                          go_wp2_with (first | (go_at_call 34; refine (HIN.out).mono ?_; rintro e w' ⟨rfl, rfl⟩) | ((at_builtin; refine wpList_append_src _ rfl (.tmp 116) (.tmp 118) _ rfl w.heap.size 54 i2 _ 2 32 Try.underlying47 hi2 hz20 hz21 hz22 rfl (by decide) _ m.l.length (m.l.flatMap Fd.cells) rfl (HI.out.own.below (below_alloc (Below.refl _ _) _)) _ 1 [.string (B m.text), .string (B m.pat)] rfl rfl (src_one _ _ _ _ _ (by first | rfl | (simp; done) | omega)) (by simp [Value.oneCell']) (by unfold maxLen; omega) (by omega) (by first | (simp; done) | omega | (simp; omega)) ?_; intro v1 w1 hown1 hg1 hat1 hty1; have HTY1 := Lib.hid hty1; clear hty1); have h1 := (HI.out.below (below_alloc (Below.refl _ _) _)).app (own_snocF hown1) hg1 hat1; have c10 := h1.c0; have c11 := h1.c1; have f1 := h1.f0; haveI : Old w1 w.heap.size := ⟨h1.lt⟩; have H1 := Lib.hid h1; clear hown1 hg1 hat1 h1))
                          go_roundw
                          case rel => exact ⟨j + 1, { endM m with mark := true }, v1, by omega, rfl, by go_num, rfl, rfl, by show _ = _; rw [HM1.out, HY.out], ((H1.out.set0 []).set1 []).flags false true⟩
                          case measure => simp [intOf]; omega
                        | false =>
                          have HY : Hid (stepM sp m (byteU ⟨true, false, text⟩ x) = m) := by show _ = _; rw [HQ.out, HW.out]; simp [sepM, hb]
                          go_wp2_with ((go_at_call 34; refine (HIN.out).mono ?_; rintro e w' ⟨rfl, rfl⟩))
                          go_roundw
                          case rel => exact ⟨j + 1, m, o, by omega, rfl, by go_num, by rw [hb], rfl, by show _ = _; rw [HM1.out, HY.out], HI.out⟩
                          case measure => simp [intOf]; omega
                      | false =>
                        rw [e10] at h10 HW
                        clear e32 e9 e10
                        cases hb : m.begun with
                        | true =>
                          have HY : Hid (stepM sp m (byteU ⟨true, false, text⟩ x) = { endM m with mark := false }) := by show _ = _; rw [HQ.out, HW.out]; simp [sepM, hb]
                          go_wp2_with (first | (go_at_call 34; refine (HIN.out).mono ?_; rintro e w' ⟨rfl, rfl⟩) | ((at_builtin; refine wpList_append_src _ rfl (.tmp 116) (.tmp 118) _ rfl w.heap.size 54 i2 _ 2 32 Try.underlying47 hi2 hz20 hz21 hz22 rfl (by decide) _ m.l.length (m.l.flatMap Fd.cells) rfl (HI.out.own.below (below_alloc (Below.refl _ _) _)) _ 1 [.string (B m.text), .string (B m.pat)] rfl rfl (src_one _ _ _ _ _ (by first | rfl | (simp; done) | omega)) (by simp [Value.oneCell']) (by unfold maxLen; omega) (by omega) (by first | (simp; done) | omega | (simp; omega)) ?_; intro v1 w1 hown1 hg1 hat1 hty1; have HTY1 := Lib.hid hty1; clear hty1); have h1 := (HI.out.below (below_alloc (Below.refl _ _) _)).app (own_snocF hown1) hg1 hat1; have c10 := h1.c0; have c11 := h1.c1; have f1 := h1.f0; haveI : Old w1 w.heap.size := ⟨h1.lt⟩; have H1 := Lib.hid h1; clear hown1 hg1 hat1 h1))
                          go_roundw
                          case rel => exact ⟨j + 1, { endM m with mark := false }, v1, by omega, rfl, by go_num, rfl, rfl, by show _ = _; rw [HM1.out, HY.out], ((H1.out.set0 []).set1 []).flags false false⟩
                          case measure => simp [intOf]; omega
                        | false =>
                          cases hk2 : m.mark with
                          | true =>
                            have HY : Hid (stepM sp m (byteU ⟨true, false, text⟩ x) = { m with mark := false }) := by show _ = _; rw [HQ.out, HW.out]; simp [sepM, hb, hk2]
                            go_wp2_with ((go_at_call 34; refine (HIN.out).mono ?_; rintro e w' ⟨rfl, rfl⟩))
                            go_roundw
                            case rel => exact ⟨j + 1, { m with mark := false }, o, by omega, rfl, by go_num, by rw [hb], rfl, by show _ = _; rw [HM1.out, HY.out], HI.out.flags m.begun false⟩
                            case measure => simp [intOf]; omega
                          | false =>
                            have HY : Hid (stepM sp m (byteU ⟨true, false, text⟩ x) = { m with l := m.l ++ [⟨[], []⟩] }) := by
                              show _ = _
                              rw [HQ.out, HW.out]
                              have := HE.out hb
                              obtain ⟨ml, mt, mp, mg, mk⟩ := m
                              simp only at this hb hk2
                              simp [sepM, endM, hb, hk2, this.1, this.2]
                            go_wp2_with (first | (go_at_call 34; refine (HIN.out).mono ?_; rintro e w' ⟨rfl, rfl⟩) | ((at_builtin; refine wpList_append_src _ rfl (.tmp 129) (.tmp 131) _ rfl w.heap.size 54 i2 _ 2 32 Try.underlying47 hi2 hz20 hz21 hz22 rfl (by decide) _ m.l.length (m.l.flatMap Fd.cells) rfl (HI.out.own.below (below_alloc (Below.refl _ _) _)) _ 1 [.string (B []), .string (B [])] rfl rfl (src_one _ _ _ _ _ (by first | rfl | (simp; done) | omega)) (by simp [Value.oneCell']) (by unfold maxLen; omega) (by omega) (by first | (simp; done) | omega | (simp; omega)) ?_; intro v1 w1 hown1 hg1 hat1 hty1; have HTY1 := Lib.hid hty1; clear hty1); have h1 := (HI.out.below (below_alloc (Below.refl _ _) _)).app (own_snocF hown1) hg1 hat1; have H1 := Lib.hid h1; clear hown1 hg1 hat1 h1))
                            go_roundw
                            case rel => exact ⟨j + 1, { m with l := m.l ++ [⟨[], []⟩] }, v1, by omega, rfl, by go_num, by rw [hb], by rw [hk2], by show _ = _; rw [HM1.out, HY.out], H1.out⟩
                            case measure => simp [intOf]; omega
          · have hje : j = text.length := by omega
            have HM1 : Hid (m = foldM sp (unitsOf (l.take (k + 1)))) := by
              show _ = _
              rw [HS.out, HX.out, HM.out, hje, List.take_length]
            clear HM
            go_wp2
            go_roundw
            case rel => exact ⟨k + 1, _, o, by omega, rfl, by go_num, rfl, rfl, HM1.out, HI.out⟩
            case measure => simp [intOf]; omega
    · have hkl : k = l.length := by omega
      have HF := HM.out
      rw [hkl, List.take_length] at HF
      have hl2 : m.l.length ≤ 4294967296 := by have := hok.l; omega
      replace HF := Lib.hid HF
      have c0 := HI.out.c0
      have c1 := HI.out.c1
      have hge := HI.out.ge
      have hbl := HI.out.bl.size
      haveI : Old wr w.heap.size := ⟨HI.out.lt⟩
      clear HM hkl
      cases hb : m.begun with
      | true =>
        have HX := Lib.hid (show splitF l sp = m.l ++ [⟨m.text, m.pat⟩] by unfold splitF outM; rw [← HF.out, hb]; rfl)
        go_wp2_with ((at_builtin; refine wpList_append_src _ rfl (.tmp 134) (.tmp 136) _ rfl w.heap.size 54 i2 _ 2 32 Try.underlying47 hi2 hz20 hz21 hz22 rfl (by decide) _ m.l.length (m.l.flatMap Fd.cells) rfl (HI.out.own.below (below_alloc (Below.refl _ _) _)) _ 1 [.string (B m.text), .string (B m.pat)] rfl rfl (src_one _ _ _ _ _ (by first | rfl | (simp; done) | omega)) (by simp [Value.oneCell']) (by unfold maxLen; omega) (by omega) (by first | (simp; done) | omega | (simp; omega)) ?_; intro v1 w1 hown1 hg1 hat1 hty1; have HTY1 := Lib.hid hty1; clear hty1); have hb1 := below_keeps (below_alloc HI.out.bl _) hg1 (fun k hk => hk.2); have HO1 := Lib.hid (own_snocF hown1); have HB1 := Lib.hid hb1; clear hown1 hg1 hat1 hb1)
        go_ret
        exact ⟨_, rfl, by rw [HX.out]; exact HO1.out, HB1.out⟩
      | false =>
        have HX := Lib.hid (show splitF l sp = m.l by unfold splitF outM; rw [← HF.out, hb]; rfl)
        go_wp2
        go_ret
        exact ⟨_, rfl, by rw [HX.out]; exact HI.out.own, HI.out.bl⟩
end Go.Proofs.Ytkinjjgaecbogaa
