/-
  Trees of files, on: the names below a node, sorted. Conditions: at most 2^40 files.
-/
import Derived.Test.YtnecmpgcjgkheaaGreatTreePlain2
import Derived.Test.YtnecmpgcjgkheaaGreatShelfC
import Derived.Sort.KeysCollected
set_option linter.unusedSimpArgs false
set_option linter.unusedVariables false
namespace Go.Proofs.YtnecmpgcjgkheaaGreat.Fil
open Go.ChangeShapes Go.WideShapes Go.Deep Go.RowKit Go.MapKept Go.WideMaps Go.ChangeMaps Pat
set_option maxRecDepth 100000
/-- slices.Sort at texts. -/
theorem sort_str (xs : List (List UInt8)) (b0 : Nat) (v : Value) (w : World) (h : Own w b0 1 v xs.length (xs.flatMap strC)) (hl : xs.length ≤ 1099511627776) :
    Calls Tryz.prog 21 #[v] w fun e w' => e = .returned (.tuple #[]) ∧ Own w' b0 1 v xs.length ((xs.mergeSort Go.leB).flatMap strC) ∧ Keeps (fun k => v.ownBlock = some k ∧ b0 ≤ k) w w' := by
  rcases Nat.eq_zero_or_pos xs.length with h0 | h0
  · obtain rfl := List.eq_nil_of_length_eq_zero h0
    obtain ⟨A, c, rfl, _⟩ := h.form0
    refine (Tryz.slices_Sort_string_none A c w).mono ?_
    rintro e w' ⟨rfl, rfl⟩
    exact ⟨rfl, by simpa using h, Keeps.refl _ _⟩
  · obtain ⟨g, off, c, rfl, hb, hg, hc, hc2⟩ := h.form' h0
    have h' := h
    rw [strC_map] at h'
    obtain ⟨hH, _, _⟩ := own_holds Go.Proofs.encStr h' h0
    refine (Tryz.slices_Sort_string g off c xs w hH hg (by omega)).mono ?_
    rintro e w' ⟨rfl, m, os, rfl⟩
    refine ⟨rfl, ?_, (keeps_put _ _ _ _ _ _ _).mono fun k _ e => by subst e; exact ⟨rfl, hb⟩⟩
    rw [strC_map]
    exact own_put Go.Proofs.encStr h' h0 (by simp) m os
/-- What holds at each round of names. -/
structure NamI (w : World) (b N : Nat) (D : DataW Unit) (v : Value) (W : World) (left : Lit → Bool) (cnt : Nat) (ss : List (List UInt8)) : Prop where
  r : W.ranges Tryz.prog 9 ptrR b w.heap.size N D left cnt
  c : Go.Collected D left ss
  n : ss.length + cnt ≤ N
  o : Own W w.heap.size 1 v ss.length (ss.flatMap strC)
  f : v.ownBlock ≠ some w.heap.size
  b : Below w.heap.size w W
theorem ranges_keeps {F : Nat → Prop} {w w' : World} {P : Program} {k : TypeId} {R : Value → Option (DataW Unit × List MemPlace)} {b r n : Nat} {D : DataW Unit} {left : Lit → Bool} {cnt : Nat} (h : w.ranges P k R b r n D left cnt) (hk : Keeps F w w') (hb : ¬ F b) (hr : ¬ F r) : w'.ranges P k R b r n D left cnt := by
  have h1 := h.owns.lt
  have h2 := h.lt
  obtain ⟨es, clock, since, seen, c0, hb', F', hs, hD, hr', rest⟩ := h
  exact ⟨es, clock, since, seen, c0, (hk.block b h1 hb).trans hb', F', hs, hD, (hk.block r h2 hr).trans hr', rest⟩
theorem invK (key : Value) (kl : Lit) (h : keyOf Tryz.prog 9 key = some kl) : ∃ a : List UInt8, key = .string (B a) := by obtain ⟨a, h1, _⟩ := keyS_inv h; exact ⟨a, h1⟩
theorem invP (v : Value) (y : DataW Unit × List MemPlace) (h : ptrR v = some y) : ∃ o, v = ptrV o := by
  unfold ptrR at h
  split at h
  · exact ⟨none, rfl⟩
  · rename_i b; exact ⟨some b, rfl⟩
  · cases h
def NamesP (g : List UInt8 → Option Nat) (w : World) (e : Ending) (w' : World) : Prop := ∃ v ss, e = .returned v ∧ Own w' w.heap.size 1 v ss.length (ss.flatMap strC) ∧ Below w.heap.size w w' ∧ Rise ss ∧ ∀ a, a ∈ ss ↔ (g a).isSome = true
theorem sort_rise {ss : List (List UInt8)} (h : ss.Nodup) : Rise (ss.mergeSort Go.leB) := by
  have tr : ∀ a b c : List UInt8, Go.leB a b = true → Go.leB b c = true → Go.leB a c = true := fun a b c h1 h2 => by simp only [Go.leB, decide_eq_true_eq] at *; exact List.le_trans h1 h2
  have tot : ∀ a b : List UInt8, (Go.leB a b || Go.leB b a) = true := fun a b => by simp only [Go.leB, Bool.or_eq_true, decide_eq_true_eq]; exact List.le_total a b
  have hs := List.pairwise_mergeSort tr tot ss
  have hn : (ss.mergeSort Go.leB).Nodup := (List.mergeSort_perm ss Go.leB).nodup_iff.2 h
  exact (hs.and hn).imp fun {a b} q => lt_of_le_ne (by simpa [Go.leB] using q.1) q.2
set_option maxHeartbeats 3200000 in
theorem names_any (w : World) (nbk r c : Nat) (g : List UInt8 → Option Nat) (hk : KidsAt w r g c) (hc : c ≤ 1099511627776) (hn : nbk < w.heap.size) (hm : w.cell? ⟨nbk, 1, none⟩ = some (.map (some r))) :
    Calls Tryz.prog 83 #[.pointer (some ⟨nbk, 0, none⟩)] w (NamesP g w) := by
  obtain ⟨i0, hi0, hz00, hz01, hz02⟩ := info_parts info_str
  obtain ⟨D, hD, hsz, hat, hhas, hkeys⟩ := hk.m
  haveI : Old w nbk := ⟨hn⟩
  have hrl := hk.lt
  have HSO := Lib.hid sort_str
  go_enter Tryz.func83, Tryz.ntmps83
  go_wp2_with (at_range; refine wpList_range_own _ rfl _ 54 rfl 9 53 keyedS Tryz.underlying54 ptrR r c D rfl hD ?_; intro w0 hrg0 hg0 hs0)
  go_frame
  rw [hsz] at hrg0
  go_loopw [3] (fun o W => ∃ v left cnt ss, v = o ∧ NamI w r c D v W left cnt ss) (fun _ W => W.rangeLeft r w.heap.size)
  case atStart =>
    exact ⟨_, _, _, [], rfl, hrg0, Go.Collected.start D, by simp, Own.nil _ _ _, by simp [Value.ownBlock], ((Below.refl _ _).grown hg0 (Nat.le_refl _) (fun j hj => by cases hj))⟩
  case round =>
    obtain ⟨v, left, cnt, ss, rfl, H⟩ := hrel
    have HI := Lib.hid H
    have hrg := H.r
    have hwz := H.b.size
    have hrz := H.r.lt
    clear H
    go_wp2_with (at_next; refine wpList_next_ranges _ rfl _ rfl 9 keyedS ptrR (fun a => .string (B a)) ptrV invK invP r w.heap.size c D left cnt rfl hrg ?_ ?_)
    · intro hc0 hl0
      have HL := Lib.hid hl0
      clear hl0 hc0
      go_wp2_with (go_at_call 21; refine (HSO.out ss w.heap.size _ _ HI.out.o (by have := HI.out.n; omega)).mono ?_; rintro e w2 ⟨rfl, ho2, hk2⟩; have HO2 := Lib.hid ho2; have HK2 := Lib.hid hk2; clear ho2 hk2)
      go_ret
      refine ⟨_, ss.mergeSort Go.leB, rfl, by simpa using HO2.out, below_keeps HI.out.b HK2.out (fun k hk => hk.2), sort_rise HI.out.c.1, fun a => ?_⟩
      rw [(List.mergeSort_perm ss Go.leB).mem_iff, HI.out.c.2 a, hhas, HL.out]
      simp
    · intro x y kl yd yp w2 cnt2 hkey hlk hv hat2 hrg2 hlt hg2 hs2 hen
      have hkl : kl = .string x := by
        obtain ⟨a, h1, h2⟩ := keyS_inv hkey
        simp only [Value.string.injEq] at h1
        rw [h2, B_inj h1]
      subst hkl
      have hO2 : Own w2 w.heap.size 1 v ss.length (ss.flatMap strC) := HI.out.o.kept hg2 (.inl HI.out.f)
      have hB2 : Below w.heap.size w w2 := HI.out.b.grown hg2 (Nat.le_trans (Nat.le_refl _) hwz) (fun j hj => by cases hj; exact Nat.le_refl _)
      have hC2 := HI.out.c.step hlk hat2
      have hz2 := hB2.size
      have HR2 := Lib.hid hrg2
      have HO2 := Lib.hid hO2
      have HB2 := Lib.hid hB2
      have HC2 := Lib.hid hC2
      have hn2 := HI.out.n
      clear hs2 hO2 hB2 hC2 hrg hrg2 hkey hlk hv hat2 hg2
      go_wp2_with ((at_builtin; refine wpList_append_src _ rfl (.tmp 14) (.tmp 16) _ rfl w.heap.size 9 i0 _ 1 16 Tryz.underlying26 hi0 hz00 hz01 hz02 rfl (by decide) _ ss.length (ss.flatMap strC) rfl (HO2.out.below (by (repeat (first | exact Below.refl _ _ | assumption | with_reducible refine below_alloc ?_ _ | with_reducible refine below_grow ?_ _ | with_reducible refine below_drewN ?_ _ | with_reducible refine below_drew ?_ | with_reducible refine below_setCell ?_ (by first | (dsimp only; omega) | (simp; done) | (simp; omega)) _)))) _ 1 (strC x) rfl rfl (Src.one _ _ _ _) (by simp [strC, Value.oneCell']) (by unfold maxLen; omega) (by omega) (by first | (simp; done) | omega | (simp; omega)) ?_; intro v3 w3 hown3 hg3 hat3 hty3; have HTY3 := Lib.hid hty3; clear hty3); have HO3 := Lib.hid hown3; have HG3 := Lib.hid hg3; have HA3 := Lib.hid hat3; clear hown3 hg3 hat3)
      have hrg3 := ranges_keeps (ranges_keeps HR2.out (Keeps.of_below (F := fun _ => False) (below_alloc (Below.refl _ _) _)) id id) HG3.out (fun q => by have := q.2; omega) (fun q => HI.out.f q.1)
      go_roundw
      case rel =>
        exact ⟨v3, _, cnt2, ss ++ [x], rfl, hrg3, HC2.out, by simp; omega, by simpa [List.flatMap_append] using HO3.out, (by
          rcases HA3.out with q | q
          · rw [q]; exact HI.out.f
          · intro e; have := q _ e; simp at this; omega), below_keeps (below_alloc HB2.out _) HG3.out (fun k hk => hk.2)⟩
      case measure => rw [hrg3.left_eq, HI.out.r.left_eq]; exact hlt
/-- A node without a map. -/
theorem names_nil (w : World) (nbk : Nat) (hn : nbk < w.heap.size) (hm : w.cell? ⟨nbk, 1, none⟩ = some (.map none)) :
    Calls Tryz.prog 83 #[.pointer (some ⟨nbk, 0, none⟩)] w (NamesP (fun _ => none) w) := by
  haveI : Old w nbk := ⟨hn⟩
  have hrg := run_range_nilMap (P := Tryz.prog) w 54 9 53 Tryz.underlying54
  have hnx : ∀ ty, (Instr.next (.pointer (some ⟨w.heap.size, 0, none⟩)) false ty).run Tryz.prog (w.alloc (.mapIter none 0 #[] 0)) = _ := fun ty => run_next_nilMap _ ty 0 0 #[]
  have HSN := Lib.hid fun W => Tryz.slices_Sort_string_none none 0 W
  go_enter Tryz.func83, Tryz.ntmps83
  go_wp2
  refine wp_loop_rounds 1 ?_
  rw [rounds_succ]
  go_wp2_with (go_at_call 21; refine (HSN.out _).mono ?_; rintro e w2 ⟨rfl, rfl⟩)
  go_ret
  exact ⟨_, [], rfl, Own.nil _ _ _, by (repeat (first | exact Below.refl _ _ | assumption | with_reducible refine below_alloc ?_ _ | with_reducible refine below_grow ?_ _ | with_reducible refine below_drewN ?_ _ | with_reducible refine below_drew ?_ | with_reducible refine below_setCell ?_ (by first | (dsimp only; omega) | (simp; done) | (simp; omega)) _)), List.Pairwise.nil, fun a => by simp⟩
end Go.Proofs.YtnecmpgcjgkheaaGreat.Fil
