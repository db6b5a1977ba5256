/-
  The walks of layer 20 (spec), in part: a spec in memory, act; maps from options to fields and to numbers. Conditions: specs of at most 2^20 actions, texts of at most 2^30 bytes.
-/
import Derived.Test.YtadaeecokkokjaaGreatPat4
import Derived.Test.YtadaeecokkokjaaGreatInsInt
import Derived.Test.YtadaeecokkokjaaGreatHist
import Derived.Test.YtadaeecokkokjaaGreatMachA
import Derived.Test.YtadaeecokkokjaaGreatParts2
import Derived.Test.YtadaeecokkokjaaGreatSplitA
import Derived.Test.YtadaeecokkokjaaGreatKeyed2
import Derived.Maps.OwnSet
import Derived.Maps.Views
import Derived.StringKeys
set_option linter.unusedSimpArgs false
set_option linter.unusedVariables false
namespace Go.Proofs.YtadaeecokkokjaaGreat.Spc
open Go.ChangeShapes Go.WideShapes Go.Deep Go.RowKit Mc Pa
set_option maxRecDepth 100000
/-- A spec. -/
structure Sp where
  a : List Int
  w : List (List UInt8)
  g : List UInt8
  x : List UInt8
  p : List UInt8
  s : List UInt8
def sp0 : Sp := ⟨[], [], [], [], [], []⟩
/-- The names of the actions. -/
def actN : List (List UInt8) := [[], [102, 105, 108, 101, 115], [100, 105, 114, 115], [99, 111, 109, 109, 97, 110, 100, 115], [118, 97, 114, 115], [97, 108, 105, 97, 115, 101, 115], [102, 117, 110, 99, 115], [98, 117, 105, 108, 116, 105, 110, 115]]
def actNm (a : Nat) : List UInt8 := actN.getD a []
/-- The spec x stands in block sb, its two slices in blocks from A on. -/
structure SpAt (w : World) (A sb : Nat) (va vw : Value) (x : Sp) : Prop where
  bx : BoxN w sb [va, vw, .string (B x.g), .string (B x.x), .string (B x.p), .string (B x.s)]
  oa : Own w A 1 va x.a.length (x.a.flatMap numC)
  ow : Own w A 1 vw x.w.length (x.w.flatMap strC)
  sa : ∀ k, va.ownBlock = some k → A ≤ k
  sw : ∀ k, vw.ownBlock = some k → A ≤ k
  ne : ∀ k, va.ownBlock = some k → vw.ownBlock ≠ some k
  la : sb < A
  z : x.a = [] → va = .slice none 0 0
/-- What may be written. -/
def SpF (A sb : Nat) (va : Value) (k : Nat) : Prop := k = sb ∨ (va.ownBlock = some k ∧ A ≤ k)
section
variable {w w' : World} {A sb : Nat} {va vw : Value} {x : Sp}
theorem SpAt.below (h : SpAt w A sb va vw x) (hb : Below w.heap.size w w') : SpAt w' A sb va vw x :=
  ⟨h.bx.below hb, h.oa.below hb, h.ow.below hb, h.sa, h.sw, h.ne, h.la, h.z⟩
theorem SpAt.keeps {F : Nat → Prop} (h : SpAt w A sb va vw x) (hk : Keeps F w w') (h1 : ¬ F sb) (h2 : ∀ k, va.ownBlock = some k → ¬ F k) (h3 : ∀ k, vw.ownBlock = some k → ¬ F k) : SpAt w' A sb va vw x :=
  ⟨h.bx.keeps hk h1, h.oa.keeps hk (fun k e _ => h2 k e), h.ow.keeps hk (fun k e _ => h3 k e), h.sa, h.sw, h.ne, h.la, h.z⟩
end
theorem action_any (a : Nat) (ha : a ≤ 7) (w : World) : Calls Tryz.prog 41 #[.int .i64 a] w fun e w' => e = .returned (.string (B (actNm a))) ∧ Below w.heap.size w w' := by
  have h : a = 0 ∨ a = 1 ∨ a = 2 ∨ a = 3 ∨ a = 4 ∨ a = 5 ∨ a = 6 ∨ a = 7 := by omega
  rcases h with rfl | rfl | rfl | rfl | rfl | rfl | rfl | rfl
  all_goals
    go_enter Tryz.func41, Tryz.ntmps41
    go_wp2
    go_ret
    exact ⟨rfl, by (repeat (first | exact Below.refl _ _ | assumption | with_reducible refine below_alloc ?_ _ | with_reducible refine below_grow ?_ _ | with_reducible refine below_drewN ?_ _ | with_reducible refine below_drew ?_ | with_reducible refine below_setCell ?_ (by first | (dsimp only; omega) | (simp; done) | (simp; omega)) _))⟩
/-- slices.BinarySearch of an own row of numbers. -/
theorem bs_int (w : World) (b0 : Nat) (v : Value) (zs : List Int) (y : Int) (ho : Own w b0 1 v zs.length (zs.flatMap numC)) (hl : zs.length ≤ 1048576) (hs : zs.Pairwise (· ≤ ·)) :
    Calls Tryz.prog 42 #[v, .int .i64 y] w fun e w' => e = .returned (.tuple #[.int .i64 (zs.countP (· < y) : Nat), .bool (zs.contains y)]) ∧ Below w.heap.size w w' := by
  by_cases h0 : zs = []
  · subst h0
    obtain ⟨A, c, rfl, _⟩ := ho.form0
    refine (Tryz.slices_BinarySearch_int_empty A c y w).mono fun e w' k => ⟨by rw [k.1]; rfl, by rw [k.2]; exact Below.refl _ _⟩
  · have hpos := List.length_pos_iff.2 h0
    obtain ⟨g, off, c, rfl, _, hg, hc, _⟩ := ho.form' hpos
    have := Tryz.slices_BinarySearch_int g off zs.length c zs y w (Nat.le_refl _) (by omega) (fun j hj => by
      have := (own_get ho numC_len rfl (by omega) (List.getElem?_eq_getElem hj) (j := 0) rfl).1
      rw [List.getD_eq_getElem?_getD, List.getElem?_eq_getElem hj]
      simpa using this) (by rw [List.take_length]; exact hs)
    rw [List.take_length] at this
    exact this.mono fun e w' ⟨h1, q, h2⟩ => ⟨h1, by rw [h2]; exact below_drewN (Below.refl _ _) q⟩
/-- An action's number by its name; 8: there is none. -/
def actK (name : List UInt8) : Nat := (actN.drop 1).idxOf name + 1
def insA (l : List Int) (a : Int) : List Int := l.take (l.countP (· < a)) ++ a :: l.drop (l.countP (· < a))
/-- What act answers, and the actions then. -/
def actL (l : List Int) (name : List UInt8) : Int × List Int := if actK name = 8 then (8, l) else if l.contains (actK name : Int) = true then (6, l) else (0, insA l (actK name))
theorem actK_le (name : List UInt8) : 1 ≤ actK name ∧ actK name ≤ 8 := by
  have : (actN.drop 1).idxOf name ≤ (actN.drop 1).length := List.idxOf_le_length
  have h7 : (actN.drop 1).length = 7 := rfl
  unfold actK
  omega
theorem actK_found {name : List UInt8} {a : Nat} (h1 : 1 ≤ a) (h7 : a ≤ 7) (h : actNm a = name) (hn : ∀ j, 1 ≤ j → j < a → actNm j ≠ name) : actK name = a := by
  have hl : (actN.drop 1).length = 7 := rfl
  have hg : (actN.drop 1)[a - 1]? = some name := by
    rw [List.getElem?_drop, show 1 + (a - 1) = a by omega, ← h]
    unfold actNm
    rw [List.getD_eq_getElem?_getD, List.getElem?_eq_getElem (show a < actN.length by show a < 8; omega)]
    rfl
  have hm := List.mem_of_getElem? hg
  have hi := List.idxOf_lt_length_of_mem hm
  have hgi : (actN.drop 1)[(actN.drop 1).idxOf name]? = some name := by rw [List.getElem?_eq_getElem hi, List.getElem_idxOf]
  unfold actK
  rcases Nat.lt_trichotomy ((actN.drop 1).idxOf name) (a - 1) with h2 | h2 | h2
  · exfalso
    refine hn ((actN.drop 1).idxOf name + 1) (by omega) (by omega) ?_
    rw [List.getElem?_drop] at hgi
    unfold actNm
    rw [List.getD_eq_getElem?_getD, Nat.add_comm, hgi]
    rfl
  · omega
  · exfalso
    have h3 : (actN.drop 1).idxOf name ≤ a - 1 := by
      have h4 : name ∈ (actN.drop 1).take a := List.mem_iff_getElem?.2 ⟨a - 1, by rw [List.getElem?_take, if_pos (by omega)]; exact hg⟩
      have h5 := List.idxOf_append (l₁ := (actN.drop 1).take a) (l₂ := (actN.drop 1).drop a) (a := name)
      rw [List.take_append_drop, if_pos h4] at h5
      have h6 := List.idxOf_lt_length_of_mem h4
      rw [List.length_take] at h6
      omega
    omega
theorem actK_none {name : List UInt8} (hn : ∀ j, 1 ≤ j → j < 8 → actNm j ≠ name) : actK name = 8 := by
  have h := actK_le name
  rcases Nat.lt_or_ge (actK name) 8 with h1 | h1
  · exfalso
    refine hn (actK name) h.1 h1 ?_
    unfold actK at h1 ⊢
    have hi : (actN.drop 1).idxOf name < (actN.drop 1).length := by show _ < 7; omega
    have hgi : (actN.drop 1)[(actN.drop 1).idxOf name]? = some name := by rw [List.getElem?_eq_getElem hi, List.getElem_idxOf]
    rw [List.getElem?_drop] at hgi
    unfold actNm
    rw [List.getD_eq_getElem?_getD, Nat.add_comm, hgi]
    rfl
  · omega
/-- What act leaves. -/
def ActP (A sb : Nat) (va vw : Value) (x : Sp) (name : List UInt8) (w : World) (e : Ending) (w' : World) : Prop :=
  e = .returned (.int .i64 (actL x.a name).1) ∧ ∃ va', SpAt w' A sb va' vw { x with a := (actL x.a name).2 } ∧ Keeps (SpF A sb va) w w'
theorem ins_new (w : World) (A n : Nat) (v : Value) (xs : List Int) (y : Int) (ho : Own w A 1 v xs.length (xs.flatMap numC)) (hl : xs.length ≤ 1048576) (hn : n ≤ xs.length) (hA : A ≤ w.heap.size) :
    Calls Tryz.prog 43 #[v, .int .i64 n, .slice (some ⟨w.heap.size, 0, none⟩) 1 1] (w.alloc (.cells #[.int .i64 y] 3)) (InsI.InsP A v (xs.take n ++ y :: xs.drop n) (w.alloc (.cells #[.int .i64 y] 3))) :=
  InsI.insert_any (w.alloc (.cells #[.int .i64 y] 3)) A w.heap.size n v xs y (fun z u hu => by simp [numC] at hu; subst hu; rfl) (ho.below (below_alloc (Below.refl _ _) _)) (heap_alloc_new w (.cells #[.int .i64 y] 3)) (fun e => by have := ho.lt _ e; omega) hl hn (by simp; omega)
theorem act_store {w w' : World} {A sb : Nat} {va vw v' : Value} {x : Sp} {ys : List Int} (h : SpAt w A sb va vw x) (hA : A ≤ w.heap.size) (ho : Own w' A 1 v' ys.length (ys.flatMap numC)) (hk : Keeps (fun k => va.ownBlock = some k ∧ A ≤ k) w w') (hat : v'.ownBlock = va.ownBlock ∨ ∀ k, v'.ownBlock = some k → w.heap.size ≤ k) (hy : ys ≠ []) :
    w'.cell? ⟨sb, 0, none⟩ = some va ∧ w'.frozen? ⟨sb, 0, none⟩ = false ∧ sb < w'.heap.size ∧ SpAt (w'.setCell ⟨sb, 0, none⟩ v') A sb v' vw { x with a := ys } ∧ Keeps (SpF A sb va) w (w'.setCell ⟨sb, 0, none⟩ v') := by
  have hla := h.la
  have hb := h.bx.keeps hk (fun e => by have := e.2; omega)
  have hs : Keeps (fun k => k = sb) w' (w'.setCell ⟨sb, 0, none⟩ v') := Keeps.setCell (F := fun k => k = sb) w' (a := ⟨sb, 0, none⟩) rfl _
  have hsa : ∀ k, v'.ownBlock = some k → A ≤ k := fun k e => by
    rcases hat with q | q
    · rw [q] at e; exact h.sa k e
    · have := q k e; omega
  refine ⟨hb.c 0 _ rfl, hb.f 0, hb.lt, ⟨boxN_set hb 0 (by simp) v', ho.keeps hs (fun k e _ q => by have := hsa k e; omega), (h.ow.keeps hk (fun k e _ q => h.ne k q.1 e)).keeps hs (fun k e _ q => by have := h.sw k e; omega), hsa, h.sw, fun k e => ?_, h.la, fun e => (hy e).elim⟩, (hk.mono fun k _ e => .inr e).trans (hs.mono fun k _ e => .inl e)⟩
  rcases hat with q | q
  · rw [q] at e; exact h.ne k e
  · intro e2
    have := q k e
    have := h.ow.lt k e2
    omega
set_option maxHeartbeats 1000000 in
theorem act_any (w : World) (A sb : Nat) (va vw : Value) (x : Sp) (name : List UInt8) (h : SpAt w A sb va vw x) (hA : A ≤ w.heap.size) (hl : x.a.length ≤ 1000000) (hs : x.a.Pairwise (· < ·)) :
    Calls Tryz.prog 21 #[.pointer (some ⟨sb, 0, none⟩), .string (B name)] w (ActP A sb va vw x name w) := by
  have H := Lib.hid h
  have HAC := Lib.hid fun a ha w => action_any a ha w
  have HS := Lib.hid (show x.a.Pairwise (· ≤ ·) from hs.imp fun h => Int.le_of_lt h)
  go_enter Tryz.func21, Tryz.ntmps21
  go_wp2
  go_loopw [5] (fun i W => ∃ (a : Nat) (W1 : World), W1 = W ∧ 1 ≤ a ∧ a ≤ 8 ∧ i = .int .i64 a ∧ Hid (∀ j, 1 ≤ j → j < a → actNm j ≠ name) ∧ Hid (Below w.heap.size w W1)) (fun i _ => 8 - (intOf i).toNat)
  case atStart => exact ⟨1, _, rfl, Nat.le_refl _, by omega, rfl, Lib.hid (fun j h1 h2 => by omega), Lib.hid (Below.refl _ _)⟩
  case round =>
    obtain ⟨a, W1, rfl, ha1, ha8, rfl, HN, HB⟩ := hrel
    by_cases h7 : a ≤ 7
    · have p0 : (a : Int) ≤ 7 := by omega
      have HA1 := Lib.hid (HAC.out a h7 W1)
      by_cases hnm : actNm a = name
      · have HK := Lib.hid (actK_found ha1 h7 hnm HN.out)
        have HNM := Lib.hid hnm
        rw [hnm] at HA1
        clear hnm
        have HL := Lib.hid (show actL x.a name = if x.a.contains (a : Int) = true then (6, x.a) else (0, insA x.a a) by unfold actL; rw [HK.out, if_neg (by omega)])
        cases hcn : x.a.contains (a : Int) with
        | true =>
          rw [hcn, if_pos rfl] at HL
          have HC := Lib.hid hcn
          clear hcn
          go_wp2_with (first
            | (go_at_call 41; refine HA1.out.mono ?_; rintro e w2 ⟨rfl, hb2⟩; have HB2 := Lib.hid (below_then HB.out hb2); have H2 := Lib.hid (H.out.below HB2.out); have c0 := H2.out.bx.c 0 _ rfl; haveI : Old w2 sb := ⟨H2.out.bx.lt⟩; have HBS := Lib.hid (bs_int w2 A va x.a a H2.out.oa (by omega) HS.out); rw [HC.out] at HBS; clear hb2)
            | (go_at_call 42; refine HBS.out.mono ?_; rintro e w3 ⟨rfl, hb3⟩; have HB3 := Lib.hid (below_then HB2.out hb3); clear hb3))
          go_ret
          exact ⟨by rw [HL.out]; rfl, va, by rw [HL.out]; exact H.out.below HB3.out, Keeps.of_below HB3.out⟩
        | false =>
          rw [hcn, if_neg (by simp)] at HL
          have HC := Lib.hid hcn
          clear hcn
          have hcp : x.a.countP (· < (a : Int)) ≤ x.a.length := List.countP_le_length
          have HIN := Lib.hid (show insA x.a (a : Int) = x.a.take (x.a.countP (· < (a : Int))) ++ (a : Int) :: x.a.drop (x.a.countP (· < (a : Int))) from rfl)
          obtain ⟨n, hnq⟩ : ∃ n, x.a.countP (· < (a : Int)) = n := ⟨_, rfl⟩
          rw [hnq] at hcp HIN
          have HNQ := Lib.hid hnq
          clear hnq
          obtain ⟨ys, hys⟩ : ∃ ys, x.a.take n ++ (a : Int) :: x.a.drop n = ys := ⟨_, rfl⟩
          rw [hys] at HIN
          have HYS := Lib.hid hys
          clear hys
          obtain ⟨Aa, ca, rfl, -⟩ := H.out.oa.form0
          have HINS := Lib.hid fun (W3 : World) (h3 : Below w.heap.size w W3) => HYS.out ▸ ins_new W3 A n (.slice Aa x.a.length ca) x.a (a : Int) (H.out.oa.below h3) (by omega) hcp (Nat.le_trans hA h3.size)
          go_wp2_with (first
            | (go_at_call 41; refine HA1.out.mono ?_; rintro e w2 ⟨rfl, hb2⟩; have HB2 := Lib.hid (below_then HB.out hb2); have H2 := Lib.hid (H.out.below HB2.out); have c0 := H2.out.bx.c 0 _ rfl; haveI : Old w2 sb := ⟨H2.out.bx.lt⟩; have HBS := Lib.hid (bs_int w2 A (.slice Aa x.a.length ca) x.a a H2.out.oa (by omega) HS.out); rw [HC.out, HNQ.out] at HBS; clear hb2)
            | (go_at_call 42; refine HBS.out.mono ?_; rintro e w3 ⟨rfl, hb3⟩; have HB3 := Lib.hid (below_then HB2.out hb3); have H3 := Lib.hid (H.out.below HB3.out); have c3 := H3.out.bx.c 0 _ rfl; haveI : Old w3 sb := ⟨H3.out.bx.lt⟩; have hA3 := Nat.le_trans hA HB3.out.size; clear hb3 c0)
            | (go_at_call 43; refine (HINS.out w3 HB3.out).mono ?_; rintro e w4 ⟨v4, rfl, ho4, hk4, hat4⟩; obtain ⟨A4, c4, rfl, -⟩ := ho4.form0; have H4 := Lib.hid (act_store (H3.out.below (below_alloc (Below.refl _ _) (.cells #[.int .i64 (a : Int)] 3))) (by simp; omega) ho4 hk4 hat4 (by rw [← HYS.out]; simp)); have d0 := H4.out.1; have f0 := H4.out.2.1; haveI : Old w4 sb := ⟨H4.out.2.2.1⟩; clear ho4 hk4 hat4))
          go_ret
          obtain ⟨-, -, -, h5, h6⟩ := H4.out
          refine ⟨by rw [HL.out]; rfl, _, by rw [HL.out, HIN.out]; exact h5, ?_⟩
          exact (Keeps.of_below (F := SpF A sb _) (below_alloc HB3.out _)).trans h6
      · have HA2 := HA1
        have HNM := Lib.hid hnm
        generalize hq : actNm a = q at *
        have n1 : (q == name) = false := by simpa using hnm
        have n2 : (q != name) = true := by simpa using hnm
        clear hnm
        go_wp2_with (go_at_call 41; refine HA1.out.mono ?_; rintro e w2 ⟨rfl, hb2⟩; have HB2 := Lib.hid (below_then HB.out hb2); clear hb2)
        exact ⟨⟨a + 1, _, rfl, by omega, by omega, by go_num, Lib.hid (fun j h1 h2 => by
          by_cases hj : j < a
          · exact HN.out j h1 hj
          · rw [show j = a by omega, hq]; exact HNM.out), HB2⟩, by simp [intOf]; omega⟩
    · have h8 : a = 8 := by omega
      subst h8
      have HK := Lib.hid (actK_none HN.out)
      have HL := Lib.hid (show actL x.a name = (8, x.a) by unfold actL; rw [HK.out, if_pos rfl])
      clear h7
      go_wp2
      go_ret
      exact ⟨by rw [HL.out]; rfl, va, by rw [HL.out]; exact H.out.below HB.out, Keeps.of_below HB.out⟩
end Go.Proofs.YtadaeecokkokjaaGreat.Spc
namespace Go.Proofs.YtadaeecokkokjaaGreat.Spc
open Go.ChangeShapes Go.WideShapes Go.Deep Go.RowKit Go.MapKept Go.WideMaps Go.ChangeMaps Mc Pa Quo
set_option maxRecDepth 100000
/-- How a pointer to a field reads. -/
def ptrR : Value → Option (DataW Unit × List MemPlace)
  | .pointer none => some (.lit (.bool false), [])
  | .pointer (some ⟨b, o, none⟩) => if o < 8 then some (.lit (.int .i64 ((b * 8 + o : Nat) : Int)), []) else none
  | _ => none
def ptrD : Option (Nat × Nat) → DataW Unit
  | none => .lit (.bool false)
  | some (b, o) => .lit (.int .i64 ((b * 8 + o : Nat) : Int))
def ptrV : Option (Nat × Nat) → Value
  | none => .pointer none
  | some (b, o) => .pointer (some ⟨b, o, none⟩)
theorem ptrR_V (b o : Nat) (h : o < 8) : ptrR (ptrV (some (b, o))) = some (ptrD (some (b, o)), []) := by unfold ptrV ptrR; exact if_pos h
theorem ptrR_inv {v : Value} {q : Option (Nat × Nat)} {ps : List MemPlace} (hq : ∀ b o, q = some (b, o) → o < 8) (h : ptrR v = some (ptrD q, ps)) : v = ptrV q := by
  unfold ptrR at h
  split at h
  · cases q with
    | none => rfl
    | some q => obtain ⟨b, o⟩ := q; simp [ptrD] at h
  · split at h
    · cases q with
      | none => simp [ptrD] at h
      | some q =>
        obtain ⟨b, o⟩ := q
        have h1 := hq b o rfl
        rename_i b' o' h2
        simp only [ptrD, Option.some.injEq, Prod.mk.injEq, DataW.lit.injEq, Lit.int.injEq, true_and] at h
        have h3 := Int.ofNat_inj.1 h.1
        have h4 : b' = b ∧ o' = o := by omega
        rw [h4.1, h4.2]; rfl
    · cases h
  · cases h
theorem keyedS : Maps.Keyed Tryz.prog 9 := Maps.string_keyed Tryz.underlying9
theorem keyS (a : List UInt8) (h : a.length ≤ 1073741824) : keyOf Tryz.prog 9 (.string (B a)) = some (.string a) := by
  rw [keyOf_string_mk Tryz.underlying9 (by rw [B_size]; unfold maxLen; omega), B_data]
theorem keyLit (a : List UInt8) : WideAt.IsKeyLit (.string a) := by first | trivial | simp [WideAt.IsKeyLit]
theorem zeroPtr (w : World) : (zeroValue 54).run Tryz.prog w = .ok (.pointer none) w := by kernel_rfl
theorem zeroI (w : World) : (zeroValue 3).run Tryz.prog w = .ok (.int .i64 0) w := by kernel_rfl
theorem size_same {w : World} {P : Program} {k : TypeId} {R : Value → Option (DataW Unit × List MemPlace)} {b n : Nat} {D : DataW Unit} (h : w.ownsMap P k R b n D) : w.ownsMap P k R b (Maps.size D) D := by
  obtain ⟨es, ck, h1, h2, h3, rfl⟩ := h
  exact ⟨es, ck, h1, h2, by simp [Maps.size, length_sorted], rfl⟩
/-- The block r is a map of at most c pointers, that leads each text to that of g. -/
structure PtrAt (w : World) (r : Nat) (g : List UInt8 → Option (Nat × Nat)) (c : Nat) : Prop where
  m : ∃ D, w.ownsMap Tryz.prog 9 ptrR r (Maps.size D) D ∧ Maps.size D ≤ c ∧ ∀ a, D.atKey (.string a) (ptrD none) = ptrD (g a)
  o : ∀ a b o, g a = some (b, o) → o < 8
theorem PtrAt.lt {w : World} {r c : Nat} {g : List UInt8 → Option (Nat × Nat)} (h : PtrAt w r g c) : r < w.heap.size := by obtain ⟨D, h1, _⟩ := h.m; exact h1.lt
theorem PtrAt.new (w : World) : PtrAt (w.alloc (.map #[] 0)) w.heap.size (fun _ => none) 0 :=
  ⟨⟨.map [], World.ownsMap_made w Tryz.prog 9 ptrR, Nat.le_refl _, fun a => rfl⟩, fun _ _ _ h => by cases h⟩
theorem PtrAt.look {w : World} {r c : Nat} {g : List UInt8 → Option (Nat × Nat)} (h : PtrAt w r g c) (a : List UInt8) (ha : a.length ≤ 1073741824) : (Instr.lookup 55 (.map (some r)) (.string (B a)) false).run Tryz.prog w = .ok (ptrV (g a)) w := by
  obtain ⟨D, h1, h2, h3⟩ := h.m
  obtain ⟨v, ps, hr, hv⟩ := h1.lookup (t := 55) (e := 54) keyedS Tryz.underlying55 (zeroPtr w) (zd := ptrD none) (zp := []) rfl (keyS a ha)
  rw [h3] at hv
  rw [hr, ptrR_inv (fun b o e => h.o a b o e) hv]
theorem PtrAt.put {w : World} {r c : Nat} {g : List UInt8 → Option (Nat × Nat)} (h : PtrAt w r g c) (a : List UInt8) (b o : Nat) (ho : o < 8) (ha : a.length ≤ 1073741824) (hc : c < 1099511627776) :
    ∃ w', (Instr.mapUpdate 55 (.map (some r)) (.string (B a)) (.pointer (some ⟨b, o, none⟩))).run Tryz.prog w = .ok () w' ∧ PtrAt w' r (fun x => if x = a then some (b, o) else g x) (c + 1) ∧ w.mapTurned w' r := by
  obtain ⟨D, h1, h2, h3⟩ := h.m
  obtain ⟨w', hr, hw, ht⟩ := h1.store (t := 55) (e := 54) keyedS Tryz.underlying55 (by unfold maxLen; omega) (keyS a ha) (ptrR_V b o ho)
  have hz : Maps.size (D.put (.string a) (ptrD (some (b, o)))) ≤ c + 1 := by
    rw [Maps.size_put (h1.tidy keyedS)]
    split <;> omega
  refine ⟨w', hr, ⟨⟨_, size_same hw, hz, fun x => ?_⟩, fun x b' o' e => ?_⟩, ht⟩
  · by_cases e : x = a
    · subst e; rw [if_pos rfl, Maps.atKey_put_same (h1.isMap) (keyLit x)]
    · rw [if_neg e, Maps.atKey_put_other (by simpa using e), h3]
  · by_cases ex : x = a
    · rw [if_pos ex] at e; cases e; exact ho
    · rw [if_neg ex] at e; exact h.o x b' o' e
/-- How a number reads. -/
def numR : Value → Option (DataW Unit × List MemPlace)
  | .int .i64 z => some (.lit (.int .i64 z), [])
  | _ => none
theorem numR_inv {v : Value} {z : Int} {ps : List MemPlace} (h : numR v = some (.lit (.int .i64 z), ps)) : v = .int .i64 z := by
  unfold numR at h
  split at h
  · simp at h
    rw [h.1]
  · cases h
def seenG (S : List (List UInt8)) (a : List UInt8) : Int := if a ∈ S then 1 else 0
/-- The block r is a map that notes which options were there. -/
structure SeenAt (w : World) (r : Nat) (S : List (List UInt8)) : Prop where
  m : ∃ D, w.ownsMap Tryz.prog 9 numR r (Maps.size D) D ∧ Maps.size D ≤ S.length ∧ ∀ a, D.atKey (.string a) (.lit (.int .i64 0)) = .lit (.int .i64 (seenG S a))
theorem SeenAt.lt {w : World} {r : Nat} {S : List (List UInt8)} (h : SeenAt w r S) : r < w.heap.size := by obtain ⟨D, h1, _⟩ := h.m; exact h1.lt
theorem SeenAt.block {w w' : World} {r : Nat} {S : List (List UInt8)} (h : SeenAt w r S) (hb : w'.heap[r]? = w.heap[r]?) : SeenAt w' r S := by
  obtain ⟨D, ⟨es, ck, k1, k2⟩, h2⟩ := h.m
  exact ⟨⟨D, ⟨es, ck, hb.trans k1, k2⟩, h2⟩⟩
theorem SeenAt.keeps {F : Nat → Prop} {w w' : World} {r : Nat} {S : List (List UInt8)} (h : SeenAt w r S) (hk : Keeps F w w') (hF : ¬ F r) : SeenAt w' r S := h.block (hk.block r h.lt hF)
theorem SeenAt.below {w w' : World} {r : Nat} {S : List (List UInt8)} (h : SeenAt w r S) (hb : Below w.heap.size w w') : SeenAt w' r S := h.block (hb.block r h.lt)
theorem SeenAt.new (w : World) : SeenAt (w.alloc (.map #[] 0)) w.heap.size [] :=
  ⟨⟨.map [], World.ownsMap_made w Tryz.prog 9 numR, Nat.le_refl _, fun a => rfl⟩⟩
theorem SeenAt.look {w : World} {r : Nat} {S : List (List UInt8)} (h : SeenAt w r S) (a : List UInt8) (ha : a.length ≤ 1073741824) : (Instr.lookup 36 (.map (some r)) (.string (B a)) false).run Tryz.prog w = .ok (.int .i64 (seenG S a)) w := by
  obtain ⟨D, h1, h2, h3⟩ := h.m
  obtain ⟨v, ps, hr, hv⟩ := h1.lookup (t := 36) (e := 3) keyedS Tryz.underlying36 (zeroI w) (zd := .lit (.int .i64 0)) (zp := []) rfl (keyS a ha)
  rw [h3] at hv
  rw [hr, numR_inv hv]
theorem SeenAt.put {w : World} {r : Nat} {S : List (List UInt8)} (h : SeenAt w r S) (a : List UInt8) (ha : a.length ≤ 1073741824) (hc : S.length < 1099511627776) :
    ∃ w', (Instr.mapUpdate 36 (.map (some r)) (.string (B a)) (.int .i64 1)).run Tryz.prog w = .ok () w' ∧ SeenAt w' r (a :: S) ∧ w.mapTurned w' r := by
  obtain ⟨D, h1, h2, h3⟩ := h.m
  obtain ⟨w', hr, ho, ht⟩ := h1.store (t := 36) (e := 3) keyedS Tryz.underlying36 (by unfold maxLen; omega) (keyS a ha) (show numR (.int .i64 1) = some (.lit (.int .i64 1), []) from rfl)
  have hz : Maps.size (D.put (.string a) (.lit (.int .i64 1))) ≤ (a :: S).length := by
    rw [Maps.size_put (h1.tidy keyedS), List.length_cons]
    split <;> omega
  refine ⟨w', hr, ⟨⟨_, size_same ho, hz, fun x => ?_⟩⟩, ht⟩
  by_cases e : x = a
  · subst e; rw [Maps.atKey_put_same (h1.isMap) (keyLit x)]; unfold seenG; rw [if_pos (List.mem_cons_self ..)]
  · rw [Maps.atKey_put_other (by simpa using e), h3]; unfold seenG; simp [e]
theorem keeps_turned {w w' : World} {r : Nat} (h : w.mapTurned w' r) : Keeps (fun k => k = r) w w' := by
  have hg := h.grown
  refine ⟨hg.os, hg.tape, hg.output, hg.size, fun k hk hF => hg.block k hk (fun e => hF (Option.some.inj e)), fun k hk => ?_⟩
  by_cases e : k = r
  · subst e
    obtain ⟨es, ck, es', ck', h1, rfl⟩ := h
    unfold tyOf
    rw [h1, heap_setBlock_same h1]
  · exact tyOf_of_block (hg.block k hk (fun q => e (Option.some.inj q)))
section
variable {P : Program} {ops : Array Oper} {o : Oper} {a : Act} {w : World} {K : Act → World → Prop} {Q : Exit → Act → World → Prop} {E : Prop} {Post : World → Prop}
theorem step_insert_x (hg : o.guard = none) (m x v : Operand) (t : TypeId) (hop : o.op = Op.insert t m x v) (mv kv vv : Value) (hm : a.eval m = mv) (hx : a.eval x = kv) (hv : a.eval v = vv)
    (hr : ∃ w', (Instr.mapUpdate t mv kv vv).run P w = .ok () w' ∧ Post w') (h : ∀ w', Post w' → K (a.put o.dst undef) w') : if Region.wanted o (yielded ops a.tmps) = true then Oper.wp P o a w K Q else E := by
  rw [if_pos (by simp [Region.wanted, hg])]
  obtain ⟨w', hrun, hp⟩ := hr
  unfold Oper.wp
  simp [execOp, hop, hm, hx, hv, hrun, Result.andThen]
  exact h w' hp
theorem step_lookup_x (hg : o.guard = none) (m x : Operand) (t : TypeId) (hop : o.op = Op.lookup t m x false) (mv kv v : Value) (hm : a.eval m = mv) (hx : a.eval x = kv)
    (hr : (Instr.lookup t mv kv false).run P w = .ok v w) (h : K (a.put o.dst v) w) : if Region.wanted o (yielded ops a.tmps) = true then Oper.wp P o a w K Q else E := by
  rw [if_pos (by simp [Region.wanted, hg])]
  unfold Oper.wp
  simp [execOp, hop, hm, hx, hr, Result.andThen]
  exact h
theorem wpList_mapUpd_x {rest : List Oper} (hg : o.guard = none) (m x v : Operand) (t : TypeId) (hop : o.op = Op.mapUpdate t m x v) (mv kv vv : Value) (hm : a.eval m = mv) (hx : a.eval x = kv) (hv : a.eval v = vv)
    (hr : ∃ w', (Instr.mapUpdate t mv kv vv).run P w = .ok () w' ∧ Post w') (h : ∀ w', Post w' → wpList P ops Q rest (a.put o.dst undef) w') : wpList P ops Q (o :: rest) a w := by
  refine wpList_plain hg fun K' hK' => ?_
  obtain ⟨w', hrun, hp⟩ := hr
  unfold Oper.wp
  simp [execOp, hop, hm, hx, hv, hrun, Result.andThen]
  exact hK' _ _ (h w' hp)
end
end Go.Proofs.YtadaeecokkokjaaGreat.Spc
