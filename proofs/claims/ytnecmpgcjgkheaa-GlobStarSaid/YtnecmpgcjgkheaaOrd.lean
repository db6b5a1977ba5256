/-
  The order of texts: strings.Compare, the model's '<', and that of lists. No program in sight.
-/
import Derived.Test.YtnecmpgcjgkheaaTreePlain2
import Derived.Test.YtnecmpgcjgkheaaShelfC
import Derived.Sort.KeysCollected
import Derived.Lib.Bytealg
set_option linter.unusedSimpArgs false
set_option linter.unusedVariables false
namespace Go.Proofs.Ytnecmpgcjgkheaa.Fil
open Go.ChangeShapes Go.WideShapes Go.Deep Go.RowKit Go.MapKept Go.WideMaps Go.ChangeMaps Pat
set_option maxRecDepth 100000
/-- slices.Sort at texts. -/
theorem sort_str (xs : List (List UInt8)) (b0 : Nat) (v : Value) (w : World) (h : Own w b0 1 v xs.length (xs.flatMap strC)) (hl : xs.length ≤ 1099511627776) :
    Calls Try.prog 32 #[v] w fun e w' => e = .returned (.tuple #[]) ∧ Own w' b0 1 v xs.length ((xs.mergeSort Go.leB).flatMap strC) ∧ Keeps (fun k => v.ownBlock = some k ∧ b0 ≤ k) w w' := by
  rcases Nat.eq_zero_or_pos xs.length with h0 | h0
  · obtain rfl := List.eq_nil_of_length_eq_zero h0
    obtain ⟨A, c, rfl, _⟩ := h.form0
    refine (Try.slices_Sort_string_none A c w).mono ?_
    rintro e w' ⟨rfl, rfl⟩
    exact ⟨rfl, by simpa using h, Keeps.refl _ _⟩
  · obtain ⟨g, off, c, rfl, hb, hg, hc, hc2⟩ := h.form' h0
    have h' := h
    rw [strC_map] at h'
    obtain ⟨hH, _, _⟩ := own_holds Go.Proofs.encStr h' h0
    refine (Try.slices_Sort_string g off c xs w hH hg (by omega)).mono ?_
    rintro e w' ⟨rfl, m, os, rfl⟩
    refine ⟨rfl, ?_, (keeps_put _ _ _ _ _ _ _).mono fun k _ e => by subst e; exact ⟨rfl, hb⟩⟩
    rw [strC_map]
    exact own_put Go.Proofs.encStr h' h0 (by simp) m os
/-- What holds at each round of names. -/
structure NamI (w : World) (b N : Nat) (D : DataW Unit) (v : Value) (W : World) (left : Lit → Bool) (cnt : Nat) (ss : List (List UInt8)) : Prop where
  r : W.ranges Try.prog 9 ptrR b w.heap.size N D left cnt
  c : Go.Collected D left ss
  n : ss.length + cnt ≤ N
  o : Own W w.heap.size 1 v ss.length (ss.flatMap strC)
  f : v.ownBlock ≠ some w.heap.size
  b : Below w.heap.size w W
theorem ranges_keeps {F : Nat → Prop} {w w' : World} {P : Program} {k : TypeId} {R : Value → Option (DataW Unit × List MemPlace)} {b r n : Nat} {D : DataW Unit} {left : Lit → Bool} {cnt : Nat} (h : w.ranges P k R b r n D left cnt) (hk : Keeps F w w') (hb : ¬ F b) (hr : ¬ F r) : w'.ranges P k R b r n D left cnt := by
  have h1 := h.owns.lt
  have h2 := h.lt
  obtain ⟨es, clock, since, seen, c0, hb', F', hs, hD, hr', rest⟩ := h
  exact ⟨es, clock, since, seen, c0, (hk.block b h1 hb).trans hb', F', hs, hD, (hk.block r h2 hr).trans hr', rest⟩
theorem invK (key : Value) (kl : Lit) (h : keyOf Try.prog 9 key = some kl) : ∃ a : List UInt8, key = .string (B a) := by obtain ⟨a, h1, _⟩ := keyS_inv h; exact ⟨a, h1⟩
theorem invP (v : Value) (y : DataW Unit × List MemPlace) (h : ptrR v = some y) : ∃ o, v = ptrV o := by
  unfold ptrR at h
  split at h
  · exact ⟨none, rfl⟩
  · rename_i b; exact ⟨some b, rfl⟩
  · cases h
def NamesP (g : List UInt8 → Option Nat) (w : World) (e : Ending) (w' : World) : Prop := ∃ v ss, e = .returned v ∧ Own w' w.heap.size 1 v ss.length (ss.flatMap strC) ∧ Below w.heap.size w w' ∧ Rise ss ∧ ∀ a, a ∈ ss ↔ (g a).isSome = true
theorem sort_rise {ss : List (List UInt8)} (h : ss.Nodup) : Rise (ss.mergeSort Go.leB) := by
  have tr : ∀ a b c : List UInt8, Go.leB a b = true → Go.leB b c = true → Go.leB a c = true := fun a b c h1 h2 => by simp only [Go.leB, decide_eq_true_eq] at *; exact List.le_trans h1 h2
  have tot : ∀ a b : List UInt8, (Go.leB a b || Go.leB b a) = true := fun a b => by simp only [Go.leB, Bool.or_eq_true, decide_eq_true_eq]; exact List.le_total a b
  have hs := List.pairwise_mergeSort tr tot ss
  have hn : (ss.mergeSort Go.leB).Nodup := (List.mergeSort_perm ss Go.leB).nodup_iff.2 h
  exact (hs.and hn).imp fun {a b} q => lt_of_le_ne (by simpa [Go.leB] using q.1) q.2
set_option maxHeartbeats 3200000 in
theorem names_any (w : World) (nbk r c : Nat) (g : List UInt8 → Option Nat) (hk : KidsAt w r g c) (hc : c ≤ 1099511627776) (hn : nbk < w.heap.size) (hm : w.cell? ⟨nbk, 1, none⟩ = some (.map (some r))) :
    Calls Try.prog 29 #[.pointer (some ⟨nbk, 0, none⟩)] w (NamesP g w) := by
  obtain ⟨i0, hi0, hz00, hz01, hz02⟩ := info_parts info_str
  obtain ⟨D, hD, hsz, hat, hhas, hkeys⟩ := hk.m
  haveI : Old w nbk := ⟨hn⟩
  have hrl := hk.lt
  have HSO := Lib.hid sort_str
  go_enter Try.func29, Try.ntmps29
  go_wp2_with (at_range; refine wpList_range_own _ rfl _ 51 rfl 9 49 keyedS Try.underlying51 ptrR r c D rfl hD ?_; intro w0 hrg0 hg0 hs0)
  go_frame
  rw [hsz] at hrg0
  go_loopw [3] (fun o W => ∃ v left cnt ss, v = o ∧ NamI w r c D v W left cnt ss) (fun _ W => W.rangeLeft r w.heap.size)
  case atStart =>
    exact ⟨_, _, _, [], rfl, hrg0, Go.Collected.start D, by simp, Own.nil _ _ _, by simp [Value.ownBlock], ((Below.refl _ _).grown hg0 (Nat.le_refl _) (fun j hj => by cases hj))⟩
  case round =>
    obtain ⟨v, left, cnt, ss, rfl, H⟩ := hrel
    have HI := Lib.hid H
    have hrg := H.r
    have hwz := H.b.size
    have hrz := H.r.lt
    clear H
    go_wp2_with (at_next; refine wpList_next_ranges _ rfl _ rfl 9 keyedS ptrR (fun a => .string (B a)) ptrV invK invP r w.heap.size c D left cnt rfl hrg ?_ ?_)
    · intro hc0 hl0
      have HL := Lib.hid hl0
      clear hl0 hc0
      go_wp2_with (go_at_call 32; refine (HSO.out ss w.heap.size _ _ HI.out.o (by have := HI.out.n; omega)).mono ?_; rintro e w2 ⟨rfl, ho2, hk2⟩; have HO2 := Lib.hid ho2; have HK2 := Lib.hid hk2; clear ho2 hk2)
      go_ret
      refine ⟨_, ss.mergeSort Go.leB, rfl, by simpa using HO2.out, below_keeps HI.out.b HK2.out (fun k hk => hk.2), sort_rise HI.out.c.1, fun a => ?_⟩
      rw [(List.mergeSort_perm ss Go.leB).mem_iff, HI.out.c.2 a, hhas, HL.out]
      simp
    · intro x y kl yd yp w2 cnt2 hkey hlk hv hat2 hrg2 hlt hg2 hs2 hen
      have hkl : kl = .string x := by
        obtain ⟨a, h1, h2⟩ := keyS_inv hkey
        simp only [Value.string.injEq] at h1
        rw [h2, B_inj h1]
      subst hkl
      have hO2 : Own w2 w.heap.size 1 v ss.length (ss.flatMap strC) := HI.out.o.kept hg2 (.inl HI.out.f)
      have hB2 : Below w.heap.size w w2 := HI.out.b.grown hg2 (Nat.le_trans (Nat.le_refl _) hwz) (fun j hj => by cases hj; exact Nat.le_refl _)
      have hC2 := HI.out.c.step hlk hat2
      have hz2 := hB2.size
      have HR2 := Lib.hid hrg2
      have HO2 := Lib.hid hO2
      have HB2 := Lib.hid hB2
      have HC2 := Lib.hid hC2
      have hn2 := HI.out.n
      clear hs2 hO2 hB2 hC2 hrg hrg2 hkey hlk hv hat2 hg2
      go_wp2_with ((at_builtin; refine wpList_append_src _ rfl (.tmp 14) (.tmp 16) _ rfl w.heap.size 9 i0 _ 1 16 Try.underlying24 hi0 hz00 hz01 hz02 rfl (by decide) _ ss.length (ss.flatMap strC) rfl (HO2.out.below (by (repeat (first | exact Below.refl _ _ | assumption | with_reducible refine below_alloc ?_ _ | with_reducible refine below_grow ?_ _ | with_reducible refine below_drewN ?_ _ | with_reducible refine below_drew ?_ | with_reducible refine below_setCell ?_ (by first | (dsimp only; omega) | (simp; done) | (simp; omega)) _)))) _ 1 (strC x) rfl rfl (Src.one _ _ _ _) (by simp [strC, Value.oneCell']) (by unfold maxLen; omega) (by omega) (by first | (simp; done) | omega | (simp; omega)) ?_; intro v3 w3 hown3 hg3 hat3 hty3; have HTY3 := Lib.hid hty3; clear hty3); have HO3 := Lib.hid hown3; have HG3 := Lib.hid hg3; have HA3 := Lib.hid hat3; clear hown3 hg3 hat3)
      have hrg3 := ranges_keeps (ranges_keeps HR2.out (Keeps.of_below (F := fun _ => False) (below_alloc (Below.refl _ _) _)) id id) HG3.out (fun q => by have := q.2; omega) (fun q => HI.out.f q.1)
      go_roundw
      case rel =>
        exact ⟨v3, _, cnt2, ss ++ [x], rfl, hrg3, HC2.out, by simp; omega, by simpa [List.flatMap_append] using HO3.out, (by
          rcases HA3.out with q | q
          · rw [q]; exact HI.out.f
          · intro e; have := q _ e; simp at this; omega), below_keeps (below_alloc HB2.out _) HG3.out (fun k hk => hk.2)⟩
      case measure => rw [hrg3.left_eq, HI.out.r.left_eq]; exact hlt
/-- A node without a map. -/
theorem names_nil (w : World) (nbk : Nat) (hn : nbk < w.heap.size) (hm : w.cell? ⟨nbk, 1, none⟩ = some (.map none)) :
    Calls Try.prog 29 #[.pointer (some ⟨nbk, 0, none⟩)] w (NamesP (fun _ => none) w) := by
  haveI : Old w nbk := ⟨hn⟩
  have hrg := run_range_nilMap (P := Try.prog) w 51 9 49 Try.underlying51
  have hnx : ∀ ty, (Instr.next (.pointer (some ⟨w.heap.size, 0, none⟩)) false ty).run Try.prog (w.alloc (.mapIter none 0 #[] 0)) = _ := fun ty => run_next_nilMap _ ty 0 0 #[]
  have HSN := Lib.hid fun W => Try.slices_Sort_string_none none 0 W
  go_enter Try.func29, Try.ntmps29
  go_wp2
  refine wp_loop_rounds 1 ?_
  rw [rounds_succ]
  go_wp2_with (go_at_call 32; refine (HSN.out _).mono ?_; rintro e w2 ⟨rfl, rfl⟩)
  go_ret
  exact ⟨_, [], rfl, Own.nil _ _ _, by (repeat (first | exact Below.refl _ _ | assumption | with_reducible refine below_alloc ?_ _ | with_reducible refine below_grow ?_ _ | with_reducible refine below_drewN ?_ _ | with_reducible refine below_drew ?_ | with_reducible refine below_setCell ?_ (by first | (dsimp only; omega) | (simp; done) | (simp; omega)) _)), List.Pairwise.nil, fun a => by simp⟩
end Go.Proofs.Ytnecmpgcjgkheaa.Fil
namespace Go.Proofs.Ytnecmpgcjgkheaa.Fil
open Go.ChangeShapes Go.WideShapes Go.Deep Go.RowKit Pat
set_option maxRecDepth 100000
/-- A file's cells. -/
def flC (f : Fl) : List Value := [.string (B f.path), .int .i64 f.kind]
theorem flC_len {xs : List Fl} : ∀ f ∈ xs, (flC f).length = 2 := fun _ _ => rfl
theorem TreeAt.keeps {F : Nat → Prop} {w w' : World} {b0 tb : Nat} {x : List Fl} {nb : List (List UInt8) → Nat} {mp : List (List UInt8) → Option Nat} (h : TreeAt w b0 tb x nb mp) (hk : Keeps F w w') (hF : ∀ k, F k → ¬ inTree tb x nb mp k) : TreeAt w' b0 tb x nb mp := by
  have hb : ∀ k, inTree tb x nb mp k → k < w.heap.size → w'.heap[k]? = w.heap[k]? := fun k h1 h2 => hk.block k h2 (fun q => hF k q h1)
  have ht := hb tb (.inl rfl) h.lt
  refine ⟨Nat.lt_of_lt_of_le h.lt hk.size, h.ge, (World.cell?_of_block (w := w) ht).trans h.t0, (World.cell?_of_block (w := w) ht).trans h.t1, fun j => (World.frozen?_of_block (w := w) ht).trans (h.tf j), h.ok, fun ks k hkd => ?_, h.k0, fun ks r h1 h2 => ?_, h.i, h.im⟩
  · obtain ⟨n1, n2, n3, n4, n5, n6⟩ := h.n ks k hkd
    have hn := hb (nb ks) (.inr ⟨ks, by rw [hkd]; rfl, .inl rfl⟩) n2
    exact ⟨n1, Nat.lt_of_lt_of_le n2 hk.size, n3, (World.cell?_of_block (w := w) hn).trans n4, (World.cell?_of_block (w := w) hn).trans n5, fun j => (World.frozen?_of_block (w := w) hn).trans (n6 j)⟩
  · obtain ⟨k1, c, k2, k3⟩ := h.k1 ks r h1 h2
    exact ⟨k1, c, k2.block (hb r (.inr ⟨ks, h1, .inr h2⟩) k2.lt), k3⟩
/-- The names of a node of a tree. -/
theorem names_node (w : World) (b0 tb : Nat) (x : List Fl) (nb : List (List UInt8) → Nat) (mp : List (List UInt8) → Option Nat) (ks : List (List UInt8)) (h : TreeAt w b0 tb x nb mp) (hk : (kd x ks).isSome = true) (hx : x.length ≤ 1099511627776) :
    Calls Try.prog 29 #[.pointer (some ⟨nb ks, 0, none⟩)] w fun e w' => ∃ v ss, e = .returned v ∧ Own w' w.heap.size 1 v ss.length (ss.flatMap strC) ∧ Below w.heap.size w w' ∧ Rise ss ∧ ∀ a, a ∈ ss ↔ (kd x (ks ++ [a])).isSome = true := by
  obtain ⟨k, hkk⟩ := Option.isSome_iff_exists.1 hk
  obtain ⟨n1, n2, n3, n4, n5, n6⟩ := h.n ks k hkk
  cases hm : mp ks with
  | none =>
    rw [hm] at n5
    refine (names_nil w (nb ks) n2 n5).mono ?_
    rintro e w' ⟨v, ss, h1, h2, h3, h4, h5⟩
    exact ⟨v, ss, h1, h2, h3, h4, fun a => by rw [h5, h.k0 ks hk hm a]; simp⟩
  | some r =>
    rw [hm] at n5
    obtain ⟨_, c, k2, k3⟩ := h.k1 ks r hk hm
    refine (names_any w (nb ks) r c _ k2 (by omega) n2 n5).mono ?_
    rintro e w' ⟨v, ss, h1, h2, h3, h4, h5⟩
    refine ⟨v, ss, h1, h2, h3, h4, fun a => ?_⟩
    rw [h5]
    unfold Fil.below
    cases hq : (kd x (ks ++ [a])) <;> simp
end Go.Proofs.Ytnecmpgcjgkheaa.Fil
namespace Go.Proofs.Ytnecmpgcjgkheaa.Tab
open Go.Lib
/-- An entry of a table. -/
structure Ent where
  name : List UInt8
  val : List UInt8
/-- Where a name stands, or would. -/
def place (xs : List Ent) (s : List UInt8) : Nat := (xs.takeWhile fun e => compareBytes e.name s < 0).length
end Go.Proofs.Ytnecmpgcjgkheaa.Tab
namespace Go.Proofs.Ytnecmpgcjgkheaa
theorem less_lt : ∀ a b : List UInt8, Op.bytesLess a b = decide (a < b)
  | [], [] => rfl
  | [], _ :: _ => by simp [Op.bytesLess]
  | _ :: _, [] => by simp [Op.bytesLess]
  | x :: a, y :: b => by
    have ih := less_lt a b
    conv => lhs; unfold Op.bytesLess
    rw [Bool.eq_iff_iff, decide_eq_true_eq, List.cons_lt_cons_iff]
    by_cases h1 : x.toNat < y.toNat
    · simp [UInt8.lt_iff_toNat_lt, h1]
    · by_cases h2 : y.toNat < x.toNat
      · have hne : x ≠ y := fun e => by subst e; omega
        simp [UInt8.lt_iff_toNat_lt, h1, hne]
      · have he : x = y := UInt8.toNat_inj.1 (by omega)
        subst he
        simp [ih]
end Go.Proofs.Ytnecmpgcjgkheaa
