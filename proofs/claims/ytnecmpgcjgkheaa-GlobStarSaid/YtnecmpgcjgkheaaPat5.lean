/-
  The walks of layer 16 (pattern): classes named in a text, by the reference and by the program. Conditions: texts of at most 2^30 bytes.
-/
import Derived.Test.YtnecmpgcjgkheaaRefTree4
import Derived.Test.YtnecmpgcjgkheaaPatA
import Derived.Test.YtnecmpgcjgkheaaShelfB
set_option linter.unusedSimpArgs false
set_option linter.unusedVariables false
namespace Go.Proofs.Ytnecmpgcjgkheaa.Fil
open Go.ChangeShapes Go.WideShapes Go.Deep Go.RowKit Pat
set_option maxRecDepth 100000
theorem KidsAt.zero {w : World} {r c : Nat} {g : List UInt8 → Option Nat} (h : KidsAt w r g c) : (c = 0 ∧ ∀ a, g a = none) ∨ (0 < c ∧ ∃ a, (g a).isSome = true) := by
  obtain ⟨D, h1, h2, h3, h4, h5⟩ := h.m
  obtain ⟨es, rfl, _, hk⟩ := h1.entries keyedS
  cases es with
  | nil =>
    refine .inl ⟨by rw [← h2]; rfl, fun a => ?_⟩
    have := h4 a
    cases hq : g a with
    | none => rfl
    | some b => rw [hq] at this; cases this
  | cons q r =>
    refine .inr ⟨by rw [← h2]; simp [Maps.size], ?_⟩
    have hh : Maps.has (DataW.map (q :: r)) q.1 = true := List.any_eq_true.2 ⟨q, by simp, WideAt.sameKey_self (hk q (by simp))⟩
    obtain ⟨a, ha⟩ := h5 _ hh
    exact ⟨a, by rw [← h4 a, ← ha]; exact hh⟩
theorem nodup_le {α : Type} [DecidableEq α] : ∀ (l m : List α), l.Nodup → (∀ a ∈ l, a ∈ m) → l.length ≤ m.length
  | [], m, _, _ => by simp
  | a :: r, m, hn, hs => by
    obtain ⟨n1, n2⟩ := List.nodup_cons.1 hn
    have ha := hs a (by simp)
    have := nodup_le r (m.erase a) n2 fun b hb => (List.mem_erase_of_ne (show b ≠ a from fun e => n1 (by rw [← e]; exact hb))).2 (hs b (by simp [hb]))
    rw [List.length_erase_of_mem ha] at this
    have := List.length_pos_of_mem ha
    simp only [List.length_cons]
    omega
theorem kids_le {w : World} {r c : Nat} {x : List Fl} {nb : List (List UInt8) → Nat} {ks : List (List UInt8)} (h : KidsAt w r (Fil.below x nb ks) c) (hx : RowF x) (hn : ∀ n ∈ ks, nameB n = true) : c ≤ x.length := by
  obtain ⟨D, h1, h2, h3, h4, h5⟩ := h.m
  obtain ⟨es, rfl, hpw, hk⟩ := h1.entries keyedS
  have hst : ∀ q ∈ es, ∃ a, q.1 = .string a ∧ a ∈ lastsL x (txt ks) := fun q hq => by
    have hh : Maps.has (DataW.map es) q.1 = true := List.any_eq_true.2 ⟨q, hq, WideAt.sameKey_self (hk q hq)⟩
    obtain ⟨a, ha⟩ := h5 _ hh
    refine ⟨a, ha, (mem_lasts hx (txt_path hn) a).2 ?_⟩
    rw [nms_txt hn]
    rw [ha, h4] at hh
    unfold Fil.below at hh
    cases hq : (kd x (ks ++ [a])).isSome with
    | true => rfl
    | false => rw [hq] at hh; cases hh
  have hl : (es.map fun q => Go.strOf q.1).length ≤ (lastsL x (txt ks)).length := by
    refine nodup_le _ _ ?_ ?_
    · refine List.pairwise_map.2 (hpw.imp_of_mem fun {q q'} hq hq' hne e => hne ?_)
      obtain ⟨a, ha, _⟩ := hst q hq
      obtain ⟨b, hb, _⟩ := hst q' hq'
      rw [ha, hb] at e ⊢
      exact congrArg _ e
    · intro a ha
      obtain ⟨q, hq, rfl⟩ := List.mem_map.1 ha
      obtain ⟨b, hb, hm⟩ := hst q hq
      rw [hb]; exact hm
  rw [List.length_map] at hl
  rw [← h2]
  refine Nat.le_trans hl ?_
  unfold lastsL
  rw [List.length_map]
  exact List.length_filter_le _ _
set_option maxHeartbeats 1600000 in
/-- A file below a node that has a map, taken away. -/
theorem TreeAt.removed {w : World} {b0 tb : Nat} {x : List Fl} {nb : List (List UInt8) → Nat} {mp : List (List UInt8) → Option Nat} (h : TreeAt w b0 tb x nb mp) {ds : List (List UInt8)} {a p : List UInt8} {r : Nat} {k : Int} (ty : TypeId) (hp : pathB p = true) (hne : p ≠ [47]) (hk : kd x (nms p) = some k)
    (hds : ds = nms (dirL p)) (ha : a = lastN p) (hm : mp ds = some r) (hno : ∀ y, kd x (nms p ++ [y]) = none) :
    ∃ w2, (Builtin.delete_ #[51, 9] ty #[.map (some r), .string (B a)]).run Try.prog w = .ok (.tuple #[]) w2 ∧
      w2.cell? ⟨tb, 1, none⟩ = some (.int .i64 x.length) ∧ w2.frozen? ⟨tb, 1, none⟩ = false ∧ tb < w2.heap.size ∧ w2.cell? ⟨tb, 0, none⟩ = some (.pointer (some ⟨nb [], 0, none⟩)) ∧ Keeps (fun j => j = r) w w2 ∧ b0 ≤ r ∧ inTree tb x nb mp r ∧
      TreeAt (w2.setCell ⟨tb, 1, none⟩ (.int .i64 ((x.length : Int) - 1))) b0 tb (dropL x p) nb mp := by
  obtain ⟨hpd, hs, hna⟩ := nms_split hp hne
  rw [← hds, ← ha] at hs
  have hks := fun ks => kd_drop (x := x) hp ks hne
  have hrow := row_drop h.ok hp hne hno
  have hlen := drop_len h.ok hp hne (by rw [hk]; rfl)
  have hdS : (kd x ds).isSome = true := by rw [h.ok.u ds a (by rw [← hs, hk]; rfl)]; rfl
  obtain ⟨r1, c, r2, r3⟩ := h.k1 ds r hdS hm
  have hga : (Fil.below x nb ds a).isSome = true := by unfold Fil.below; rw [← hs, hk]; rfl
  obtain ⟨w2, hrun, hk2, ht⟩ := r2.del a (by have := (name_no (ha ▸ hna)).2.2; omega) hga ty
  have hK := keeps_turned ht
  have htr : tb ≠ r := cells_no_map h.t0 r2
  have htb := hK.block tb h.lt htr
  have c1 := (World.cell?_of_block (w := w) (a := ⟨tb, 1, none⟩) htb).trans h.t1
  have c0 := (World.cell?_of_block (w := w) (a := ⟨tb, 0, none⟩) htb).trans h.t0
  have hS : Keeps (fun j => j = tb) w2 (w2.setCell ⟨tb, 1, none⟩ (.int .i64 ((x.length : Int) - 1))) := Keeps.setCell (F := fun j => j = tb) _ (a := ⟨tb, 1, none⟩) rfl _
  have hlt2 : tb < w2.heap.size := Nat.lt_of_lt_of_le h.lt hK.size
  have f1 : ∀ j, w2.frozen? ⟨tb, j, none⟩ = false := fun j => (World.frozen?_of_block (w := w) htb).trans (h.tf j)
  refine ⟨w2, hrun, c1, f1 1, hlt2, c0, hK, r1, .inr ⟨ds, hdS, .inr hm⟩, ?_⟩
  generalize hW3 : w2.setCell ⟨tb, 1, none⟩ (.int .i64 ((x.length : Int) - 1)) = W3 at *
  have two : ∀ j, j < w.heap.size → j ≠ r → j ≠ tb → W3.heap[j]? = w.heap[j]? := fun j hj q1 q2 => (hS.block j (Nat.lt_of_lt_of_le hj hK.size) q2).trans (hK.block j hj q1)
  have hsz : w.heap.size ≤ W3.heap.size := Nat.le_trans hK.size hS.size
  have hsub : ∀ ks, (kd (dropL x p) ks).isSome = true → ks ≠ nms p ∧ (kd x ks).isSome = true := fun ks q => by
    rw [hks] at q
    by_cases e : ks = nms p
    · rw [if_pos e] at q; cases q
    · rw [if_neg e] at q; exact ⟨e, q⟩
  have hgt : ∀ {ks y}, ks ++ [y] = nms p → ks = ds ∧ y = a := fun {ks y} q => by
    rw [hs] at q
    have := List.append_inj' q rfl
    exact ⟨this.1, by simpa using this.2⟩
  refine ⟨Nat.lt_of_lt_of_le h.lt hsz, h.ge, ?_, ?_, fun j => ?_, hrow, fun ks kk hkk => ?_, fun ks hkk hmk y => ?_, fun ks r' hkk hmk => ?_, fun ks js q1 q2 q3 => h.i ks js (hsub ks q1).2 (hsub js q2).2 q3, fun ks js r' q1 q2 q3 q4 => h.im ks js r' (hsub ks q1).2 (hsub js q2).2 q3 q4⟩
  · rw [← hW3, World.cell?_setCell_other _ _ _ _ (by simp)]
    exact c0
  · rw [← hW3, World.cell?_setCell_same' _ _ _ (by rw [c1]; rfl), show ((x.length : Int) - 1) = ((dropL x p).length : Int) by omega]
  · rw [← hW3, World.frozen?_setCell]; exact f1 j
  · have hs1 := hsub ks (by rw [hkk]; rfl)
    rw [hks, if_neg hs1.1] at hkk
    obtain ⟨m1, m2, m3, m4, m5, m6⟩ := h.n ks kk hkk
    have hh := two (nb ks) m2 (cells_no_map m4 r2) m3
    exact ⟨m1, Nat.lt_of_lt_of_le m2 hsz, m3, (World.cell?_of_block (w := w) hh).trans m4, (World.cell?_of_block (w := w) hh).trans m5, fun j => (World.frozen?_of_block (w := w) hh).trans (m6 j)⟩
  · have hs1 := hsub ks hkk
    rw [hks, h.k0 ks hs1.2 hmk y]
    split <;> rfl
  · have hs1 := hsub ks hkk
    by_cases q : ks = ds
    · subst q
      rw [hm] at hmk; cases hmk
      refine ⟨r1, c - 1, ?_, ?_⟩
      · have hfun : (fun y => if y = a then none else Fil.below x nb ks y) = Fil.below (dropL x p) nb ks := by
          funext y
          unfold Fil.below
          rw [hks]
          by_cases z : y = a
          · rw [if_pos z, z, ← hs, if_pos rfl]; rfl
          · have hne2 : ks ++ [y] ≠ nms p := fun t => z (hgt t).2
            rw [if_neg z, if_neg hne2]
        rw [← hfun]
        exact hk2.keeps hS (fun t => htr t.symm)
      · rcases r2.zero with ⟨z, _⟩ | ⟨z, _⟩ <;> omega
    · obtain ⟨m1, c', m2, m3⟩ := h.k1 ks r' hs1.2 hmk
      have hrr : r' ≠ r := fun t => q (h.im ks ds r hs1.2 hdS (t ▸ hmk) hm)
      have hfun : Fil.below x nb ks = Fil.below (dropL x p) nb ks := by
        funext y
        unfold Fil.below
        have hne2 : ks ++ [y] ≠ nms p := fun t => q (hgt t).1
        rw [hks, if_neg hne2]
      have htr' : tb ≠ r' := cells_no_map h.t0 m2
      have hkk2 : KidsAt W3 r' (Fil.below (dropL x p) nb ks) c' := by
        rw [← hfun]
        exact m2.block (two r' m2.lt hrr (fun t => htr' t.symm))
      exact ⟨m1, c', hkk2, kids_le hkk2 hrow (kd_names hkk)⟩
end Go.Proofs.Ytnecmpgcjgkheaa.Fil
namespace Go.Proofs.Ytnecmpgcjgkheaa.Fil
open Go.ChangeShapes Go.WideShapes Go.Deep Go.RowKit Pat
set_option maxRecDepth 100000
end Go.Proofs.Ytnecmpgcjgkheaa.Fil
namespace Go.Proofs.Ytnecmpgcjgkheaa.Fil
open Go.ChangeShapes Go.WideShapes Go.Deep Go.RowKit Pat
set_option maxRecDepth 100000
/-- What List answers. -/
def liN (x : List Fl) (p : List UInt8) : Int := if pathB p = true then (if kindL x p = 0 then 3 else if kindL x p = 1 then 0 else 11) else 10
def liL (x : List Fl) (p : List UInt8) : List (List UInt8) := if liN x p = 0 then namesR x p else []
def ListP (x : List Fl) (p : List UInt8) (w : World) (e : Ending) (w' : World) : Prop := ∃ v, e = .returned (.tuple #[v, .int .i64 (liN x p)]) ∧ Own w' w.heap.size 1 v (liL x p).length ((liL x p).flatMap strC) ∧ Below w.heap.size w w'
theorem ListP.no {x : List Fl} {p : List UInt8} {w w' : World} {n : Int} (h : liN x p = n) (hn : n ≠ 0) (hb : Below w.heap.size w w') : ListP x p w (.returned (.tuple #[.slice none 0 0, .int .i64 n])) w' := by
  refine ⟨_, by rw [h], ?_, hb⟩
  unfold liL
  rw [if_neg (by rw [h]; exact hn)]
  exact Own.nil _ _ _
set_option maxHeartbeats 3200000 in
theorem list_any (w : World) (b0 tb : Nat) (x : List Fl) (nb : List (List UInt8) → Nat) (mp : List (List UInt8) → Option Nat) (p : List UInt8) (h : TreeAt w b0 tb x nb mp) (hm : MaxL w) (hl : p.length ≤ 1073741824) (hx : x.length ≤ 1048576) :
    Calls Try.prog 16 #[.pointer (some ⟨tb, 0, none⟩), .string (B p)] w (ListP x p w) := by
  have HIP := Lib.hid (isPath_any p w hm hl)
  have hmn : liN x p = if pathB p = true then (if kindL x p = 0 then 3 else if kindL x p = 1 then 0 else 11) else 10 := rfl
  cases hp : pathB p with
  | false =>
    rw [hp] at HIP
    rw [hp, if_neg (by simp)] at hmn
    have HMN := Lib.hid hmn
    clear h hm hp hmn
    go_enter Try.func16, Try.ntmps16
    go_wp2_with (go_at_call 22; refine HIP.out.mono ?_; rintro e w1 ⟨rfl, hb⟩; have HB := Lib.hid hb; clear hb)
    go_ret2
    exact ListP.no HMN.out (by decide) HB.out
  | true =>
    rw [hp] at HIP
    rw [hp, if_pos rfl] at hmn
    have HF := Lib.hid fun W (hW : Below w.heap.size w W) => find_any W b0 tb x nb mp p (h.below hW) (hm.below hW) hp hl
    have hkk := kd_kind h.ok hp
    unfold nodeV at HF
    cases hk : kd x (nms p) with
    | none =>
      rw [hk] at HF hkk
      rw [if_pos (by rw [hkk]; rfl)] at hmn
      have HMN := Lib.hid hmn
      simp only [Option.isSome_none, Bool.false_eq_true, if_false] at HF
      unfold ptrV at HF
      clear h hm hkk hk hp hmn
      go_enter Try.func16, Try.ntmps16
      go_wp2_with (first | (go_at_call 22; refine HIP.out.mono ?_; rintro e w1 ⟨rfl, hb⟩; have HB := Lib.hid hb; clear hb) | (go_at_call 23; refine (HF.out _ HB.out).mono ?_; rintro e w2 ⟨rfl, hb⟩; have HB2 := Lib.hid (below_then HB.out hb); clear hb))
      go_ret2
      exact ListP.no HMN.out (by decide) HB2.out
    | some kk =>
      rw [hk] at HF hkk
      have hpos := kd_pos h.ok hk
      simp only [Option.getD_some] at hkk
      rw [if_neg (by rw [hkk]; omega)] at hmn
      simp only [Option.isSome_some, if_true] at HF
      unfold ptrV at HF
      have HN := Lib.hid fun W (hW : Below w.heap.size w W) => (h.below hW).n (nms p) kk hk
      by_cases q1 : kk = 1
      · subst q1
        rw [if_pos hkk] at hmn
        have HMN := Lib.hid hmn
        have HNN := Lib.hid fun W (hW : Below w.heap.size w W) => names_node W b0 tb x nb mp (nms p) (h.below hW) (by rw [hk]; rfl) (by omega)
        have HEQ := Lib.hid fun ss h1 h2 => namesR_eq (ss := ss) h.ok hp h1 h2
        clear h hm hkk hk hp hmn hpos
        go_enter Try.func16, Try.ntmps16
        go_wp2_with (first
          | (go_at_call 22; refine HIP.out.mono ?_; rintro e w1 ⟨rfl, hb⟩; have HB := Lib.hid hb; clear hb)
          | (go_at_call 23; refine (HF.out _ HB.out).mono ?_; rintro e w2 ⟨rfl, hb⟩; have HB2 := Lib.hid (below_then HB.out hb); obtain ⟨n1, n2, n3, n4, n5, n6⟩ := HN.out _ HB2.out; haveI : Old w2 (nb (nms p)) := ⟨n2⟩; clear hb n1 n3 n5 n6)
          | (go_at_call 29; refine (HNN.out _ HB2.out).mono ?_; rintro e w3 ⟨v3, ss, rfl, ho3, hb3, hr3, hm3⟩; have HO3 := Lib.hid (ho3.mono HB2.out.size : Own w3 w.heap.size 1 v3 _ _); have HB3 := Lib.hid (below_then HB2.out hb3); have HE := Lib.hid (HEQ.out ss hr3 hm3); clear ho3 hb3 hr3 hm3))
        go_ret2
        refine ⟨_, by rw [HMN.out]; rfl, ?_, HB3.out⟩
        unfold liL
        rw [if_pos HMN.out, ← HE.out]
        exact HO3.out
      · rw [if_neg (by rw [hkk]; exact q1)] at hmn
        have HMN := Lib.hid hmn
        have q2 : (kk != 1) = true := by simpa using q1
        clear h hm hkk hk hp hmn hpos q1
        go_enter Try.func16, Try.ntmps16
        go_wp2_with (first
          | (go_at_call 22; refine HIP.out.mono ?_; rintro e w1 ⟨rfl, hb⟩; have HB := Lib.hid hb; clear hb)
          | (go_at_call 23; refine (HF.out _ HB.out).mono ?_; rintro e w2 ⟨rfl, hb⟩; have HB2 := Lib.hid (below_then HB.out hb); obtain ⟨n1, n2, n3, n4, n5, n6⟩ := HN.out _ HB2.out; haveI : Old w2 (nb (nms p)) := ⟨n2⟩; clear hb n1 n3 n5 n6))
        go_ret2
        exact ListP.no HMN.out (by decide) HB2.out
end Go.Proofs.Ytnecmpgcjgkheaa.Fil
namespace Go.Proofs.Ytnecmpgcjgkheaa.Pat
open Go.ChangeShapes Go.WideShapes Go.Deep Go.RowKit
set_option maxRecDepth 100000
theorem u8_ne {x y : UInt8} (h : ¬ x = y) : (((x.toNat : Nat) : Int) == ((y.toNat : Nat) : Int)) = false := by
  rw [beq_eq_false_iff_ne]
  intro e
  exact h (UInt8.toNat_inj.1 (by omega))
end Go.Proofs.Ytnecmpgcjgkheaa.Pat
namespace Go.Proofs.Ytnecmpgcjgkheaa.Pat
open Go.ChangeShapes Go.WideShapes Go.Deep Go.RowKit
set_option maxRecDepth 100000
theorem wrapb (k : Nat) (h : k < 256) : IntKind.u8.wrap (k : Int) = ((UInt8.ofNat k).toNat : Int) := by
  rw [wraps_u8 _ (by omega) (by omega)]
  simp; omega
end Go.Proofs.Ytnecmpgcjgkheaa.Pat
