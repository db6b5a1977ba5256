/-
  Trees of files, on: all files below a node. Conditions: paths of at most 2^30 bytes; at most 2^20 files.
-/
import Derived.Test.YtkllgikmlgponaaTree6
namespace Go.Proofs.Ytkllgikmlgponaa.Fil
open Go.ChangeShapes Go.WideShapes Go.Deep Go.RowKit Pat
set_option maxRecDepth 100000
/-- A file's cells. -/
def flC (f : Fl) : List Value := [.string (B f.path), .int .i64 f.kind]
theorem info_file : (Try.prog.info? 59).map (fun i => (i.zero, i.size, i.bytes)) = some (some (.agg #[.string ByteArray.empty, .int .i64 0]), 2, 24) := by kernel_rfl
theorem flC_len {xs : List Fl} : ∀ f ∈ xs, (flC f).length = 2 := fun _ _ => rfl
theorem flC_flat (xs : List Fl) : (xs.flatMap flC).length = xs.length * 2 := by
  induction xs with
  | nil => rfl
  | cons a r ih => rw [List.flatMap_cons, List.length_append, ih, List.length_cons]; simp [flC]; omega
theorem TreeAt.keeps {F : Nat → Prop} {w w' : World} {b0 tb : Nat} {x : List Fl} {nb : List (List UInt8) → Nat} {mp : List (List UInt8) → Option Nat} (h : TreeAt w b0 tb x nb mp) (hk : Keeps F w w') (hF : ∀ k, F k → ¬ inTree tb x nb mp k) : TreeAt w' b0 tb x nb mp := by
  have hb : ∀ k, inTree tb x nb mp k → k < w.heap.size → w'.heap[k]? = w.heap[k]? := fun k h1 h2 => hk.block k h2 (fun q => hF k q h1)
  have ht := hb tb (.inl rfl) h.lt
  refine ⟨Nat.lt_of_lt_of_le h.lt hk.size, h.ge, (World.cell?_of_block (w := w) ht).trans h.t0, (World.cell?_of_block (w := w) ht).trans h.t1, fun j => (World.frozen?_of_block (w := w) ht).trans (h.tf j), h.ok, fun ks k hkd => ?_, h.k0, fun ks r h1 h2 => ?_, h.i, h.im⟩
  · obtain ⟨n1, n2, n3, n4, n5, n6⟩ := h.n ks k hkd
    have hn := hb (nb ks) (.inr ⟨ks, by rw [hkd]; rfl, .inl rfl⟩) n2
    exact ⟨n1, Nat.lt_of_lt_of_le n2 hk.size, n3, (World.cell?_of_block (w := w) hn).trans n4, (World.cell?_of_block (w := w) hn).trans n5, fun j => (World.frozen?_of_block (w := w) hn).trans (n6 j)⟩
  · obtain ⟨k1, c, k2, k3⟩ := h.k1 ks r h1 h2
    exact ⟨k1, c, k2.block (hb r (.inr ⟨ks, h1, .inr h2⟩) k2.lt), k3⟩
theorem inTree_lt {w : World} {b0 tb : Nat} {x : List Fl} {nb : List (List UInt8) → Nat} {mp : List (List UInt8) → Option Nat} (h : TreeAt w b0 tb x nb mp) {k : Nat} (hk : inTree tb x nb mp k) : k < w.heap.size := by
  rcases hk with rfl | ⟨ks, h1, rfl | h2⟩
  · exact h.lt
  · obtain ⟨kk, hkk⟩ := Option.isSome_iff_exists.1 h1
    exact (h.n ks kk hkk).2.1
  · obtain ⟨_, c, k2, _⟩ := h.k1 ks k h1 h2
    exact k2.lt
/-- The names of a node of a tree. -/
theorem names_node (w : World) (b0 tb : Nat) (x : List Fl) (nb : List (List UInt8) → Nat) (mp : List (List UInt8) → Option Nat) (ks : List (List UInt8)) (h : TreeAt w b0 tb x nb mp) (hk : (kd x ks).isSome = true) (hx : x.length ≤ 1099511627776) :
    Calls Try.prog 65 #[.pointer (some ⟨nb ks, 0, none⟩)] w fun e w' => ∃ v ss, e = .returned v ∧ Own w' w.heap.size 1 v ss.length (ss.flatMap strC) ∧ Below w.heap.size w w' ∧ Rise ss ∧ ∀ a, a ∈ ss ↔ (kd x (ks ++ [a])).isSome = true := by
  obtain ⟨k, hkk⟩ := Option.isSome_iff_exists.1 hk
  obtain ⟨n1, n2, n3, n4, n5, n6⟩ := h.n ks k hkk
  cases hm : mp ks with
  | none =>
    rw [hm] at n5
    refine (names_nil w (nb ks) n2 n5).mono ?_
    rintro e w' ⟨v, ss, h1, h2, h3, h4, h5⟩
    exact ⟨v, ss, h1, h2, h3, h4, fun a => by rw [h5, h.k0 ks hk hm a]; simp⟩
  | some r =>
    rw [hm] at n5
    obtain ⟨_, c, k2, k3⟩ := h.k1 ks r hk hm
    refine (names_any w (nb ks) r c _ k2 (by omega) n2 n5).mono ?_
    rintro e w' ⟨v, ss, h1, h2, h3, h4, h5⟩
    refine ⟨v, ss, h1, h2, h3, h4, fun a => ?_⟩
    rw [h5]
    unfold Fil.below
    cases hq : (kd x (ks ++ [a])) <;> simp
/-- What all returns. -/
def AllP (x : List Fl) (ks : List (List UInt8)) (b1 : Nat) (v : Value) (m : Nat) (xs : List Value) (w : World) (e : Ending) (w' : World) : Prop :=
  ∃ v' add, e = .returned v' ∧ List.Perm add (belowL x ks) ∧ Own w' b1 2 v' (m + add.length) (xs ++ add.flatMap flC) ∧ Keeps (fun k => v.ownBlock = some k ∧ b1 ≤ k) w w' ∧ (v'.ownBlock = v.ownBlock ∨ ∀ k, v'.ownBlock = some k → w.heap.size ≤ k)
/-- What holds at each round of all. -/
structure AllI (x : List Fl) (ks ns : List (List UInt8)) (b1 : Nat) (v : Value) (m : Nat) (xs : List Value) (w : World) (v' : Value) (i : Nat) (add : List Fl) (W : World) : Prop where
  il : i ≤ ns.length
  p : List.Perm add ((ns.take i).flatMap fun a => fromL x (ks ++ [a]))
  o : Own W b1 2 v' (m + add.length) (xs ++ add.flatMap flC)
  k : Keeps (fun k => v.ownBlock = some k ∧ b1 ≤ k) w W
  f : v'.ownBlock = v.ownBlock ∨ ∀ k, v'.ownBlock = some k → w.heap.size ≤ k
theorem joinN_snoc (ks : List (List UInt8)) (a : List UInt8) : joinN (ks ++ [a]) = joinN ks ++ 47 :: a := by rw [joinN_app]; simp [joinN]
theorem flat_sub {x : List Fl} {ks ns : List (List UInt8)} {i : Nat} (hp : List.Perm (belowL x ks) (ns.flatMap fun a => fromL x (ks ++ [a]))) : ((ns.take i).flatMap fun a => fromL x (ks ++ [a])).length ≤ (belowL x ks).length := by
  rw [hp.length_eq]
  conv => rhs; rw [← List.take_append_drop i ns, List.flatMap_append, List.length_append]
  omega
set_option maxHeartbeats 6400000 in
theorem all_ind (b0 tb : Nat) (x : List Fl) (nb : List (List UInt8) → Nat) (mp : List (List UInt8) → Option Nat) (hx : x.length ≤ 1048576) (hxl : ∀ f ∈ x, f.path.length ≤ 1073741824) :
    ∀ (n : Nat) (ks : List (List UInt8)) (w : World) (b1 : Nat) (v : Value) (m : Nat) (xs : List Value), (belowL x ks).length < n → (kd x ks).isSome = true → TreeAt w b0 tb x nb mp → Own w b1 2 v m xs → (∀ k, v.ownBlock = some k → b1 ≤ k → ¬ inTree tb x nb mp k) → b1 ≤ w.heap.size → m + (belowL x ks).length ≤ 1099511627776 →
      Calls Try.prog 60 #[.pointer (some ⟨nb ks, 0, none⟩), .string (B (joinN ks)), v] w (AllP x ks b1 v m xs w)
  | 0, _, _, _, _, _, _, h, _, _, _, _, _, _ => absurd h (by omega)
  | n + 1, ks, w, b1, v, m, xs, hn, hk, hT, hO, hF, hb, hm => by
    have IH := Lib.hid (all_ind b0 tb x nb mp hx hxl n)
    obtain ⟨i0, hi0, hz00, hz01, hz02⟩ := info_parts info_file
    have HT := Lib.hid hT
    have HO := Lib.hid hO
    have HF := Lib.hid hF
    have HN := Lib.hid (names_node w b0 tb x nb mp ks hT hk (by omega))
    obtain ⟨kk, hkk⟩ := Option.isSome_iff_exists.1 hk
    have hnlt := (hT.n ks kk hkk).2.1
    have HKK := Lib.hid hkk
    have HX := Lib.hid hxl
    clear hkk hT hO hF hxl
    go_enter Try.func60, Try.ntmps60
    go_wp2_with (go_at_call 65; refine HN.out.mono ?_; rintro e w1 ⟨sv, ss, rfl, ho1, hb1, hr1, hm1⟩; obtain ⟨A, c, rfl, hA⟩ := ho1.form0; have HO1 := Lib.hid ho1; have HB1 := Lib.hid hb1; have HR1 := Lib.hid hr1; have HM1 := Lib.hid hm1; have HA := Lib.hid hA; clear ho1 hb1 hr1 hm1 hA)
    have HP := Lib.hid (below_perm HT.out.ok (rise_nodup HR1.out) HM1.out)
    have hbz := HB1.out.size
    go_loopw [2, 13] (fun o j W' => ∃ (v' : Value) (i : Nat) (add : List Fl) (W : World), v' = o ∧ j = .int .i64 i ∧ W = W' ∧ AllI x ks ss b1 v m xs w1 v' i add W) (fun _ j _ => ss.length - (intOf j).toNat)
    case atStart =>
      exact ⟨v, 0, [], _, rfl, rfl, rfl, Nat.zero_le _, List.Perm.refl _, by simpa using HO.out.below HB1.out, Keeps.refl _ _, .inl rfl⟩
    case round =>
      obtain ⟨v', i, add, W, rfl, rfl, rfl, H⟩ := hrel
      have HI := Lib.hid H
      have hil := H.il
      have hWs := H.k.size
      have hne1 : ∀ k, v.ownBlock = some k → k < w.heap.size := HO.out.lt
      have HTW := Lib.hid ((HT.out.below HB1.out).keeps H.k (fun k q => HF.out k q.1 q.2))
      clear H
      by_cases hlt : i < ss.length
      · have k0 : (0 : Int) ≤ (i : Int) := by omega
        have k1 : (i : Int) < (ss.length : Int) := by omega
        obtain ⟨g, off, c', hv, hg0, hg1, hg2, hg3⟩ := HO1.out.form' (by omega)
        simp only [Value.slice.injEq] at hv
        obtain ⟨rfl, _, rfl⟩ := hv
        have HSW : Hid (Own W w.heap.size 1 (.slice (some ⟨g, off, none⟩) ss.length c) ss.length (ss.flatMap strC)) := HO1.out.keeps HI.out.k (fun k q hk1 q2 => by
          have h1 := hne1 k q2.1
          simp only [Value.ownBlock, Option.map_some, Option.some.injEq] at q
          omega)
        obtain ⟨hsc, hsl⟩ := own_str HSW.out (show ss[i]? = some ss[i] from List.getElem?_eq_getElem hlt)
        haveI : Old W g := ⟨hsl⟩
        haveI : Old W (nb ks) := ⟨by omega⟩
        have hmem := (HM1.out ss[i]).1 (List.getElem_mem hlt)
        have hst : ss.take (i + 1) = ss.take i ++ [ss[i]] := List.take_succ_eq_append_getElem hlt
        have hsub := flat_sub (i := i + 1) HP.out
        generalize ss[i] = a at *
        obtain ⟨k2, hk2⟩ := Option.isSome_iff_exists.1 hmem
        obtain ⟨f, hf1, hf2, hf3, hf4⟩ := kd_find hk2 (by simp)
        have htx : txt (ks ++ [a]) = joinN ks ++ 47 :: a := by unfold txt; rw [if_neg (by simp), joinN_snoc]
        have hfl := HX.out f hf1
        rw [hf2, htx, List.length_append, List.length_cons] at hfl
        obtain ⟨_, _, _, n4, n5, _⟩ := HTW.out.n ks kk HKK.out
        obtain ⟨_, m2, _, m4, _, _⟩ := HTW.out.n _ k2 hk2
        haveI : Old W (nb (ks ++ [a])) := ⟨m2⟩
        have hlk := HTW.out.look (ks := ks) (by rw [HKK.out]; rfl) a (by omega)
        unfold Fil.below at hlk
        rw [if_pos hmem] at hlk
        unfold ptrV at hlk
        have HFP := Lib.hid (from_perm HT.out.ok hk2 (by simp))
        have hbl := below_less HT.out.ok hmem
        have hap := HI.out.p.length_eq
        have hap2 : add.length + 1 + (belowL x (ks ++ [a])).length ≤ (belowL x ks).length := by
          rw [hst, List.flatMap_append, List.length_append, ← hap] at hsub
          have := HFP.out.length_eq
          simp at hsub this
          omega
        have l1 : ((joinN ks).length : Int) + 1 ≤ 9223372036854775807 := by omega
        have l2 : ((joinN ks).length : Int) + 1 + (a.length : Int) ≤ 9223372036854775807 := by omega
        have hO1 := HI.out.o
        have HIH := Lib.hid fun W' (hW : TreeAt W' b0 tb x nb mp) u (hu : Own W' b1 2 u (m + add.length + 1) (xs ++ add.flatMap flC ++ flC ⟨joinN ks ++ 47 :: a, k2⟩)) h1 h2 => IH.out (ks ++ [a]) W' b1 u (m + add.length + 1) _ (by omega) hmem hW hu h1 h2 (by omega)
        rw [joinN_snoc] at HIH
        have HFI : Hid (∀ k, v'.ownBlock = some k → b1 ≤ k → ¬ inTree tb x nb mp k) := fun k q1 q2 => by
          rcases HI.out.f with q | q
          · exact HF.out k (by rw [← q]; exact q1) q2
          · intro q3
            have h1 := q k q1
            have h2 := inTree_lt HT.out q3
            omega
        have HST := Lib.hid hst
        have HTX := Lib.hid htx
        have hi2 : m + add.length + 1 ≤ 1099511627776 := by omega
        clear hmem hst hsub hk2 hf1 hf2 hf3 hf4 htx hfl hbl hap hg0 hg1 hne1
        go_wp2_with (first
          | ((at_builtin; refine wpList_append_src _ rfl (.tmp 23) (.tmp 33) _ rfl b1 59 i0 _ 2 24 Try.underlying57 hi0 hz00 hz01 hz02 rfl (by decide) _ (m + add.length) (xs ++ add.flatMap flC) rfl (hO1.below (by (repeat (first | exact Below.refl _ _ | assumption | with_reducible refine below_alloc ?_ _ | with_reducible refine below_grow ?_ _ | with_reducible refine below_drewN ?_ _ | with_reducible refine below_drew ?_ | with_reducible refine below_setCell ?_ (by first | (dsimp only; omega) | (simp; done) | (simp; omega)) _)))) _ 1 (flC ⟨joinN ks ++ 47 :: a, k2⟩) rfl rfl (Src.one _ _ _ _) (by simp [flC, Value.oneCell']) (by unfold maxLen; omega) (by omega) (by first | (simp; done) | omega | (simp; omega)) ?_; intro v2 w2 hown2 hg2 hat2 hty2; have HTY2 := Lib.hid hty2; clear hty2); have HO2 := Lib.hid hown2; have HG2 : Hid (Keeps (fun k => v'.ownBlock = some k ∧ b1 ≤ k) W w2) := (Keeps.of_below (below_alloc (Below.refl _ _) _)).trans hg2; have HA2 : Hid (v2.ownBlock = v'.ownBlock ∨ ∀ k, v2.ownBlock = some k → W.heap.size ≤ k) := hat2.imp id (fun q k hk => by have := q k hk; simp at this; omega); clear hown2 hg2 hat2; have HT2 := Lib.hid (HTW.out.keeps HG2.out (fun k q => HFI.out k q.1 q.2)); have hz2 := HG2.out.size)
          | (go_at_call 60; refine (HIH.out _ HT2.out v2 HO2.out (fun k q1 q2 => by
              rcases HA2.out with q | q
              · exact HFI.out k (by rw [← q]; exact q1) q2
              · intro q3
                have h1 := q k q1
                have h2 := inTree_lt HT.out q3
                omega) (by omega)).mono ?_; rintro e w3 ⟨v3, add3, rfl, hp3, ho3, hk3, hf3⟩; have HO3 := Lib.hid ho3; have HP3 := Lib.hid hp3; have HK3 := Lib.hid hk3; have HF3 := Lib.hid hf3; clear ho3 hp3 hk3 hf3))
        go_roundw
        case rel =>
          have hff : ∀ k, v'.ownBlock = some k ∧ b1 ≤ k → k < w1.heap.size → v.ownBlock = some k ∧ b1 ≤ k := fun k q hk => by
            rcases HI.out.f with r | r
            · exact ⟨r ▸ q.1, q.2⟩
            · have := r k q.1; omega
          have hff2 : ∀ k, v2.ownBlock = some k ∧ b1 ≤ k → k < w1.heap.size → v.ownBlock = some k ∧ b1 ≤ k := fun k q hk => by
            rcases HA2.out with r | r
            · exact hff k ⟨r ▸ q.1, q.2⟩ hk
            · have := r k q.1; omega
          refine ⟨v3, i + 1, add ++ ⟨joinN ks ++ 47 :: a, k2⟩ :: add3, _, rfl, by go_num, rfl, by omega, ?_, ?_, ?_, ?_⟩
          · rw [HST.out, List.flatMap_append]
            refine HI.out.p.append ?_
            simp only [List.flatMap_cons, List.flatMap_nil, List.append_nil]
            refine List.Perm.trans ?_ HFP.out.symm
            rw [HTX.out]
            exact HP3.out.cons _
          · have := HO3.out
            rw [show m + add.length + 1 + add3.length = m + (add ++ ⟨joinN ks ++ 47 :: a, k2⟩ :: add3).length by simp; omega] at this
            simpa [List.flatMap_append] using this
          · have e1 : Keeps (fun k => (v.ownBlock = some k ∧ b1 ≤ k) ∨ w1.heap.size ≤ k) w1 w3 :=
              ((HI.out.k.mono (fun k _ q => .inl q)).trans (HG2.out.mono fun k _ q => (Nat.lt_or_ge k w1.heap.size).elim (fun z => .inl (hff k q z)) .inr)).trans (HK3.out.mono fun k _ q => (Nat.lt_or_ge k w1.heap.size).elim (fun z => .inl (hff2 k q z)) .inr)
            exact ⟨e1.os, e1.tape, e1.output, e1.size, fun k hk hF => e1.block k hk (fun q => q.elim hF (fun z => by omega)), e1.ty⟩
          · have hw1 := HI.out.k.size
            rcases HF3.out with r | r
            · rw [r]
              rcases HA2.out with r2 | r2
              · rw [r2]; exact HI.out.f
              · exact .inr fun k hk => by have := r2 k hk; omega
            · exact .inr fun k hk => by have := r k hk; omega
        case measure => simp [intOf]; omega
      · have hie : i = ss.length := by omega
        subst hie
        have d0 := no hlt
        clear hlt
        go_wp2
        go_ret
        exact ⟨v', add, rfl, by have := HI.out.p; rw [List.take_length] at this; exact this.trans HP.out.symm, HI.out.o, (Keeps.of_below HB1.out).trans HI.out.k, HI.out.f.imp id (fun q k hk => by have := q k hk; omega)⟩
end Go.Proofs.Ytkllgikmlgponaa.Fil
