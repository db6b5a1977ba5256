/-
  Trees of files, on: a file taken away, in memory. Conditions: paths of at most 2^30 bytes.
-/
import Derived.Test.YtnecmpgcjgkheaaGreatRefTree2
set_option linter.unusedSimpArgs false
set_option linter.unusedVariables false
namespace Go.Proofs.YtnecmpgcjgkheaaGreat.Fil
open Go.ChangeShapes Go.WideShapes Go.Deep Go.RowKit Pat
set_option maxRecDepth 100000
theorem namesR_snoc (x : List Fl) (p : List UInt8) (k : Nat) (f : Fl) (h : x[k]? = some f) : namesR (x.take (k + 1)) p = if dirL f.path = p then putL (namesR (x.take k) p) (lastN f.path) else namesR (x.take k) p := by
  obtain ⟨h1, rfl⟩ := List.getElem?_eq_some_iff.1 h
  unfold namesR lastsL
  rw [List.take_succ_eq_append_getElem h1, List.filter_append, List.map_append, List.foldl_append]
  by_cases q : dirL x[k].path = p
  · rw [if_pos q, List.filter_cons_of_pos (by simpa using q)]; rfl
  · rw [if_neg q, List.filter_cons_of_neg (by simpa using q)]; rfl
theorem putL_len (s : List UInt8) : ∀ l : List (List UInt8), (putL l s).length ≤ l.length + 1
  | [] => by simp [putL]
  | a :: r => by
    unfold putL
    split
    · split <;> simp
    · have := putL_len s r; simp; omega
theorem namesR_len (x : List Fl) (p : List UInt8) : ∀ k, (namesR (x.take k) p).length ≤ k
  | 0 => by simp [namesR, lastsL]
  | k + 1 => by
    have ih := namesR_len x p k
    cases h : x[k]? with
    | none => rw [List.take_of_length_le (by have := List.getElem?_eq_none_iff.1 h; omega)] at *; omega
    | some f =>
      rw [namesR_snoc x p k f h]
      have := putL_len (lastN f.path) (namesR (x.take k) p)
      split <;> omega
theorem lastN_len (s : List UInt8) : (lastN s).length ≤ s.length := by
  have h := partsL_len s
  unfold lastN
  rw [List.getLastD_eq_getLast?]
  cases h1 : (partsL s).getLast? with
  | none => simp
  | some y =>
    have := (partsL_mem (List.mem_of_getLast? h1)).2
    simpa using this
set_option maxHeartbeats 3200000 in
theorem refNames_any (x : List Fl) (v : Value) (p : List UInt8) (w : World) (h : Sl w flC 2 v x) (hx : x.length ≤ 1000000) (hxl : ∀ f ∈ x, f.path.length ≤ 1073741824) : Calls Tryz.prog 35 #[v, .string (B p)] w (StrP (namesR x p) w) := by
  obtain ⟨A, c, rfl, hc1, hc2, hn, hA⟩ := h
  have HA := Lib.hid hA
  have HDR := Lib.hid refDir_any
  have HNA := Lib.hid refName_any
  have HPU := Lib.hid refPut_any
  have HX := Lib.hid hxl
  clear hA hn hc1 hc2 hxl
  go_enter Tryz.func35, Tryz.ntmps35
  go_wp2
  go_loopw [5, 6] (fun o i w' => ∃ (k : Nat) (u : Value), u = o ∧ k ≤ x.length ∧ i = .int .i64 k ∧ Hid (Own w' w.heap.size 1 u (namesR (x.take k) p).length ((namesR (x.take k) p).flatMap strC)) ∧ Hid (Below w.heap.size w w')) (fun _ i _ => x.length - (intOf i).toNat)
  case atStart => exact ⟨0, _, rfl, by omega, rfl, Own.nil _ _ _, Below.refl _ _⟩
  case round =>
    obtain ⟨k, u, rfl, hk, rfl, HO, HB⟩ := hrel
    have hbs := HB.out.size
    by_cases hlt : k < x.length
    · obtain ⟨g, off, rfl, hb, hc⟩ := HA.out (by omega)
      obtain ⟨f, hfm⟩ := get_some hlt
      have e0 : wr.cell? ⟨g, off + k * 2, none⟩ = some (.string (B f.path)) := (HB.out.cell (p := ⟨g, off + k * 2, none⟩) hb).trans (by have := hc k _ hfm 0 _ rfl; simpa using this)
      haveI : Old wr g := ⟨World.block_lt_of_cell? _ _ e0⟩
      have k0 : (0 : Int) ≤ (k : Int) := by omega
      have k1 : (k : Int) < (x.length : Int) := by omega
      have hfl := HX.out f (List.mem_of_getElem? hfm)
      have HSN := Lib.hid (namesR_snoc x p k f hfm)
      have HD := Lib.hid fun W => HDR.out f.path W hfl
      clear hc hfm
      by_cases q : dirL f.path = p
      · have HE : Hid (namesR (x.take (k + 1)) p = putL (namesR (x.take k) p) (lastN f.path)) := by show _ = _; rw [HSN.out, if_pos q]
        have q1 : (dirL f.path == p) = true := by simpa using q
        have HN := Lib.hid fun W => HNA.out f.path W hfl
        have HP := Lib.hid fun W (hW : Below wr.heap.size wr W) => HPU.out (namesR (x.take k) p) u (lastN f.path) W (((HO.out.below hW).sl strC_len rfl)) (by have := namesR_len x p k; omega)
        clear q
        go_wp2_with (first
          | (go_at_call 38; refine (HD.out _).mono ?_; rintro e w2 ⟨rfl, rfl⟩)
          | (go_at_call 49; refine (HN.out _).mono ?_; rintro e w2 ⟨rfl, hb2⟩; have HB2 := Lib.hid hb2; clear hb2)
          | (go_at_call 30; refine (HP.out _ HB2.out).mono ?_; rintro e w3 ⟨v3, rfl, ho3, hb3⟩; have HO3 := Lib.hid (ho3.mono (by have := (below_then HB.out HB2.out).size; omega) : Own w3 w.heap.size 1 v3 _ _); have HB3 := Lib.hid (below_then (below_then HB.out HB2.out) hb3); clear ho3 hb3))
        go_roundw
        case rel => exact ⟨k + 1, v3, rfl, by omega, by go_num, by show Own _ _ _ _ _ _; rw [HE.out]; exact HO3.out, HB3.out⟩
        case measure => simp [intOf]; omega
      · have HE : Hid (namesR (x.take (k + 1)) p = namesR (x.take k) p) := by show _ = _; rw [HSN.out, if_neg q]
        have q1 : (dirL f.path == p) = false := by simpa using q
        clear q
        go_wp2_with (go_at_call 38; refine (HD.out _).mono ?_; rintro e w2 ⟨rfl, rfl⟩)
        go_roundw
        case rel => exact ⟨k + 1, u, rfl, by omega, by go_num, by show Own _ _ _ _ _ _; rw [HE.out]; exact HO.out, HB.out⟩
        case measure => simp [intOf]; omega
    · have hk2 : k = x.length := by omega
      subst hk2
      have d0 := no hlt
      have ho := HO.out
      rw [List.take_length] at ho
      have HO2 := Lib.hid ho
      clear hlt ho
      go_wp2
      go_ret
      exact ⟨u, rfl, HO2.out, HB.out⟩
end Go.Proofs.YtnecmpgcjgkheaaGreat.Fil
namespace Go.Proofs.YtnecmpgcjgkheaaGreat.Fil
open Go.ChangeShapes Go.WideShapes Go.Deep Go.RowKit Pat
set_option maxRecDepth 100000
end Go.Proofs.YtnecmpgcjgkheaaGreat.Fil
namespace Go.Proofs.YtnecmpgcjgkheaaGreat.Fil
open Go.ChangeShapes Go.WideShapes Go.Deep Go.RowKit Pat
set_option maxRecDepth 100000
theorem KidsAt.zero {w : World} {r c : Nat} {g : List UInt8 → Option Nat} (h : KidsAt w r g c) : (c = 0 ∧ ∀ a, g a = none) ∨ (0 < c ∧ ∃ a, (g a).isSome = true) := by
  obtain ⟨D, h1, h2, h3, h4, h5⟩ := h.m
  obtain ⟨es, rfl, _, hk⟩ := h1.entries keyedS
  cases es with
  | nil =>
    refine .inl ⟨by rw [← h2]; rfl, fun a => ?_⟩
    have := h4 a
    cases hq : g a with
    | none => rfl
    | some b => rw [hq] at this; cases this
  | cons q r =>
    refine .inr ⟨by rw [← h2]; simp [Maps.size], ?_⟩
    have hh : Maps.has (DataW.map (q :: r)) q.1 = true := List.any_eq_true.2 ⟨q, by simp, WideAt.sameKey_self (hk q (by simp))⟩
    obtain ⟨a, ha⟩ := h5 _ hh
    exact ⟨a, by rw [← h4 a, ← ha]; exact hh⟩
theorem nodup_le {α : Type} [DecidableEq α] : ∀ (l m : List α), l.Nodup → (∀ a ∈ l, a ∈ m) → l.length ≤ m.length
  | [], m, _, _ => by simp
  | a :: r, m, hn, hs => by
    obtain ⟨n1, n2⟩ := List.nodup_cons.1 hn
    have ha := hs a (by simp)
    have := nodup_le r (m.erase a) n2 fun b hb => (List.mem_erase_of_ne (show b ≠ a from fun e => n1 (by rw [← e]; exact hb))).2 (hs b (by simp [hb]))
    rw [List.length_erase_of_mem ha] at this
    have := List.length_pos_of_mem ha
    simp only [List.length_cons]
    omega
theorem kids_le {w : World} {r c : Nat} {x : List Fl} {nb : List (List UInt8) → Nat} {ks : List (List UInt8)} (h : KidsAt w r (Fil.below x nb ks) c) (hx : RowF x) (hn : ∀ n ∈ ks, nameB n = true) : c ≤ x.length := by
  obtain ⟨D, h1, h2, h3, h4, h5⟩ := h.m
  obtain ⟨es, rfl, hpw, hk⟩ := h1.entries keyedS
  have hst : ∀ q ∈ es, ∃ a, q.1 = .string a ∧ a ∈ lastsL x (txt ks) := fun q hq => by
    have hh : Maps.has (DataW.map es) q.1 = true := List.any_eq_true.2 ⟨q, hq, WideAt.sameKey_self (hk q hq)⟩
    obtain ⟨a, ha⟩ := h5 _ hh
    refine ⟨a, ha, (mem_lasts hx (txt_path hn) a).2 ?_⟩
    rw [nms_txt hn]
    rw [ha, h4] at hh
    unfold Fil.below at hh
    cases hq : (kd x (ks ++ [a])).isSome with
    | true => rfl
    | false => rw [hq] at hh; cases hh
  have hl : (es.map fun q => Go.strOf q.1).length ≤ (lastsL x (txt ks)).length := by
    refine nodup_le _ _ ?_ ?_
    · refine List.pairwise_map.2 (hpw.imp_of_mem fun {q q'} hq hq' hne e => hne ?_)
      obtain ⟨a, ha, _⟩ := hst q hq
      obtain ⟨b, hb, _⟩ := hst q' hq'
      rw [ha, hb] at e ⊢
      exact congrArg _ e
    · intro a ha
      obtain ⟨q, hq, rfl⟩ := List.mem_map.1 ha
      obtain ⟨b, hb, hm⟩ := hst q hq
      rw [hb]; exact hm
  rw [List.length_map] at hl
  rw [← h2]
  refine Nat.le_trans hl ?_
  unfold lastsL
  rw [List.length_map]
  exact List.length_filter_le _ _
set_option maxHeartbeats 1600000 in
/-- A file below a node that has a map, taken away. -/
theorem TreeAt.removed {w : World} {b0 tb : Nat} {x : List Fl} {nb : List (List UInt8) → Nat} {mp : List (List UInt8) → Option Nat} (h : TreeAt w b0 tb x nb mp) {ds : List (List UInt8)} {a p : List UInt8} {r : Nat} {k : Int} (ty : TypeId) (hp : pathB p = true) (hne : p ≠ [47]) (hk : kd x (nms p) = some k)
    (hds : ds = nms (dirL p)) (ha : a = lastN p) (hm : mp ds = some r) (hno : ∀ y, kd x (nms p ++ [y]) = none) :
    ∃ w2, (Builtin.delete_ #[54, 9] ty #[.map (some r), .string (B a)]).run Tryz.prog w = .ok (.tuple #[]) w2 ∧
      w2.cell? ⟨tb, 1, none⟩ = some (.int .i64 x.length) ∧ w2.frozen? ⟨tb, 1, none⟩ = false ∧ tb < w2.heap.size ∧ w2.cell? ⟨tb, 0, none⟩ = some (.pointer (some ⟨nb [], 0, none⟩)) ∧ Keeps (fun j => j = r) w w2 ∧ b0 ≤ r ∧ inTree tb x nb mp r ∧
      TreeAt (w2.setCell ⟨tb, 1, none⟩ (.int .i64 ((x.length : Int) - 1))) b0 tb (dropL x p) nb mp := by
  obtain ⟨hpd, hs, hna⟩ := nms_split hp hne
  rw [← hds, ← ha] at hs
  have hks := fun ks => kd_drop (x := x) hp ks hne
  have hrow := row_drop h.ok hp hne hno
  have hlen := drop_len h.ok hp hne (by rw [hk]; rfl)
  have hdS : (kd x ds).isSome = true := by rw [h.ok.u ds a (by rw [← hs, hk]; rfl)]; rfl
  obtain ⟨r1, c, r2, r3⟩ := h.k1 ds r hdS hm
  have hga : (Fil.below x nb ds a).isSome = true := by unfold Fil.below; rw [← hs, hk]; rfl
  obtain ⟨w2, hrun, hk2, ht⟩ := r2.del a (by have := (name_no (ha ▸ hna)).2.2; omega) hga ty
  have hK := keeps_turned ht
  have htr : tb ≠ r := cells_no_map h.t0 r2
  have htb := hK.block tb h.lt htr
  have c1 := (World.cell?_of_block (w := w) (a := ⟨tb, 1, none⟩) htb).trans h.t1
  have c0 := (World.cell?_of_block (w := w) (a := ⟨tb, 0, none⟩) htb).trans h.t0
  have hS : Keeps (fun j => j = tb) w2 (w2.setCell ⟨tb, 1, none⟩ (.int .i64 ((x.length : Int) - 1))) := Keeps.setCell (F := fun j => j = tb) _ (a := ⟨tb, 1, none⟩) rfl _
  have hlt2 : tb < w2.heap.size := Nat.lt_of_lt_of_le h.lt hK.size
  have f1 : ∀ j, w2.frozen? ⟨tb, j, none⟩ = false := fun j => (World.frozen?_of_block (w := w) htb).trans (h.tf j)
  refine ⟨w2, hrun, c1, f1 1, hlt2, c0, hK, r1, .inr ⟨ds, hdS, .inr hm⟩, ?_⟩
  generalize hW3 : w2.setCell ⟨tb, 1, none⟩ (.int .i64 ((x.length : Int) - 1)) = W3 at *
  have two : ∀ j, j < w.heap.size → j ≠ r → j ≠ tb → W3.heap[j]? = w.heap[j]? := fun j hj q1 q2 => (hS.block j (Nat.lt_of_lt_of_le hj hK.size) q2).trans (hK.block j hj q1)
  have hsz : w.heap.size ≤ W3.heap.size := Nat.le_trans hK.size hS.size
  have hsub : ∀ ks, (kd (dropL x p) ks).isSome = true → ks ≠ nms p ∧ (kd x ks).isSome = true := fun ks q => by
    rw [hks] at q
    by_cases e : ks = nms p
    · rw [if_pos e] at q; cases q
    · rw [if_neg e] at q; exact ⟨e, q⟩
  have hgt : ∀ {ks y}, ks ++ [y] = nms p → ks = ds ∧ y = a := fun {ks y} q => by
    rw [hs] at q
    have := List.append_inj' q rfl
    exact ⟨this.1, by simpa using this.2⟩
  refine ⟨Nat.lt_of_lt_of_le h.lt hsz, h.ge, ?_, ?_, fun j => ?_, hrow, fun ks kk hkk => ?_, fun ks hkk hmk y => ?_, fun ks r' hkk hmk => ?_, fun ks js q1 q2 q3 => h.i ks js (hsub ks q1).2 (hsub js q2).2 q3, fun ks js r' q1 q2 q3 q4 => h.im ks js r' (hsub ks q1).2 (hsub js q2).2 q3 q4⟩
  · rw [← hW3, World.cell?_setCell_other _ _ _ _ (by simp)]
    exact c0
  · rw [← hW3, World.cell?_setCell_same' _ _ _ (by rw [c1]; rfl), show ((x.length : Int) - 1) = ((dropL x p).length : Int) by omega]
  · rw [← hW3, World.frozen?_setCell]; exact f1 j
  · have hs1 := hsub ks (by rw [hkk]; rfl)
    rw [hks, if_neg hs1.1] at hkk
    obtain ⟨m1, m2, m3, m4, m5, m6⟩ := h.n ks kk hkk
    have hh := two (nb ks) m2 (cells_no_map m4 r2) m3
    exact ⟨m1, Nat.lt_of_lt_of_le m2 hsz, m3, (World.cell?_of_block (w := w) hh).trans m4, (World.cell?_of_block (w := w) hh).trans m5, fun j => (World.frozen?_of_block (w := w) hh).trans (m6 j)⟩
  · have hs1 := hsub ks hkk
    rw [hks, h.k0 ks hs1.2 hmk y]
    split <;> rfl
  · have hs1 := hsub ks hkk
    by_cases q : ks = ds
    · subst q
      rw [hm] at hmk; cases hmk
      refine ⟨r1, c - 1, ?_, ?_⟩
      · have hfun : (fun y => if y = a then none else Fil.below x nb ks y) = Fil.below (dropL x p) nb ks := by
          funext y
          unfold Fil.below
          rw [hks]
          by_cases z : y = a
          · rw [if_pos z, z, ← hs, if_pos rfl]; rfl
          · have hne2 : ks ++ [y] ≠ nms p := fun t => z (hgt t).2
            rw [if_neg z, if_neg hne2]
        rw [← hfun]
        exact hk2.keeps hS (fun t => htr t.symm)
      · rcases r2.zero with ⟨z, _⟩ | ⟨z, _⟩ <;> omega
    · obtain ⟨m1, c', m2, m3⟩ := h.k1 ks r' hs1.2 hmk
      have hrr : r' ≠ r := fun t => q (h.im ks ds r hs1.2 hdS (t ▸ hmk) hm)
      have hfun : Fil.below x nb ks = Fil.below (dropL x p) nb ks := by
        funext y
        unfold Fil.below
        have hne2 : ks ++ [y] ≠ nms p := fun t => q (hgt t).1
        rw [hks, if_neg hne2]
      have htr' : tb ≠ r' := cells_no_map h.t0 m2
      have hkk2 : KidsAt W3 r' (Fil.below (dropL x p) nb ks) c' := by
        rw [← hfun]
        exact m2.block (two r' m2.lt hrr (fun t => htr' t.symm))
      exact ⟨m1, c', hkk2, kids_le hkk2 hrow (kd_names hkk)⟩
end Go.Proofs.YtnecmpgcjgkheaaGreat.Fil
