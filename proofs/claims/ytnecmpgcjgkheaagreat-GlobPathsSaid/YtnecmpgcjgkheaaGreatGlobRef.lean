/-
  The reference of layer 27 (glob): what components lead to. Conditions: components of at most 10000 bytes, a row of at most 2^20 files, at most 2^40 texts.
-/
import Derived.Test.YtnecmpgcjgkheaaGreatTree10
import Derived.Test.YtnecmpgcjgkheaaGreatPat20
import Derived.Test.YtnecmpgcjgkheaaGreatFil5
set_option linter.unusedSimpArgs false
set_option linter.unusedVariables false
namespace Go.Proofs.YtnecmpgcjgkheaaGreat.Glob
open Go.ChangeShapes Go.WideShapes Go.Deep Go.RowKit Fil Pat
set_option maxRecDepth 100000
theorem conv_one27 (w : World) (c : UInt8) : (convert 76 9 (.slice (some ⟨w.heap.size, 0, none⟩) 1 1)).run Tryz.prog (w.alloc (.cells #[.int .u8 c.toNat] 5)) = .ok (.string (B [c])) (w.alloc (.cells #[.int .u8 c.toNat] 5)) := by
  have := Lib.run_convert_whole (P := Tryz.prog) (w.alloc (.cells #[.int .u8 c.toNat] 5)) _ _ _ Tryz.underlying76 Tryz.underlying5 Tryz.underlying9 w.heap.size 0 (B [c]) (fun i hi => by
    rw [B_size] at hi
    obtain rfl : i = 0 := by simp at hi; omega
    go_simp) 1
  rw [B_size] at this
  exact this
theorem names_li {x : List Fl} (hx : RowF x) {dir : List UInt8} (hd : pathB dir = true) : namesR x dir = liL x dir := by
  by_cases h : kindL x dir = 1
  · have : liN x dir = 0 := by unfold liN; rw [if_pos hd, if_neg (by rw [h]; decide), if_pos h]
    unfold liL
    rw [if_pos this]
  · have hn : namesR x dir = [] := by
      have hl : lastsL x dir = [] := by
        refine List.eq_nil_iff_forall_not_mem.2 fun a ha => ?_
        have := hx.u _ _ ((mem_lasts hx hd a).1 ha)
        rw [kd_kind hx hd, this] at h
        exact h rfl
      unfold namesR
      rw [hl]
      rfl
    rw [hn]
    unfold liL
    rw [hn]
    split <;> rfl
set_option maxHeartbeats 1600000 in
theorem refLit_any (l : List At) (v : Value) (w : World) (h : Sl w atC 6 v l) (hl : l.length ≤ 1073741824) : Calls Tryz.prog 32 #[v] w fun e w' => e = .returned (.tuple #[.string (B (litT l)), .bool (litB l)]) ∧ Below w.heap.size w w' := by
  obtain ⟨A, c, rfl, hc1, hc2, hn, hA⟩ := h
  have HA := Lib.hid hA
  clear hA hn
  go_enter Tryz.func32, Tryz.ntmps32
  go_wp2
  go_loopw [4, 5] (fun t i w' => ∃ k : Nat, k ≤ l.length ∧ i = .int .i64 k ∧ t = .string (B ((l.take k).map At.byt)) ∧ Hid (litB (l.take k) = true) ∧ Hid (Below w.heap.size w w')) (fun _ i _ => l.length - (intOf i).toNat)
  case atStart => exact ⟨0, by omega, rfl, rfl, rfl, Below.refl _ _⟩
  case round =>
    obtain ⟨k, hk, rfl, rfl, HT, HB⟩ := hrel
    by_cases hlt : k < l.length
    · obtain ⟨b, off, rfl, hb, hc⟩ := HA.out (by omega)
      obtain ⟨x, hxm⟩ := get_some hlt
      have e0 : wr.cell? ⟨b, off + k * 6, none⟩ = some (.int .i64 x.kind) := (HB.out.cell (p := ⟨b, off + k * 6, none⟩) hb).trans (by have := hc k _ hxm 0 _ rfl; simpa using this)
      have e1 : wr.cell? ⟨b, off + k * 6 + 1, none⟩ = some (.int .u8 x.byt.toNat) := (HB.out.cell (p := ⟨b, off + k * 6 + 1, none⟩) hb).trans (hc k _ hxm 1 _ rfl)
      haveI : Old wr b := ⟨World.block_lt_of_cell? _ _ e0⟩
      have k0 : (0 : Int) ≤ (k : Int) := by omega
      have k1 : (k : Int) < (l.length : Int) := by omega
      have HTK := Lib.hid (show l.take (k + 1) = l.take k ++ [x] by rw [List.take_add_one, hxm]; rfl)
      have hbk := byte_kind x
      have hbk2 : (x.kind == 1) = x.isByte := by cases x <;> rfl
      have HXM := Lib.hid hxm
      clear hc hxm
      cases hxb : x.isByte with
      | false =>
        rw [hxb] at hbk hbk2
        have HE := Lib.hid (show litB l = false by
          unfold litB
          rw [List.all_eq_false]
          exact ⟨x, List.mem_of_getElem? HXM.out, by simp [hxb]⟩)
        clear hxb
        go_wp2
        go_ret2
        exact ⟨by unfold litT; rw [HE.out]; rfl, HB.out⟩
      | true =>
        rw [hxb] at hbk hbk2
        have HE := Lib.hid (show litB (l.take (k + 1)) = true by
          rw [HTK.out]
          unfold litB
          rw [List.all_append]
          have := HT.out
          unfold litB at this
          rw [this]
          simp [hxb])
        have hcv := conv_one27 wr x.byt
        have htl : (((l.take k).map At.byt).length : Int) + 1 ≤ 9223372036854775807 := by simp; omega
        clear hxb
        go_wp2
        go_roundw
        case rel => exact ⟨k + 1, by omega, by go_num, by rw [HTK.out]; simp, HE.out, by show Below _ _ _; exact below_alloc HB.out _⟩
        case measure => simp [intOf]; omega
    · have hk2 : k = l.length := by omega
      subst hk2
      have d0 := no hlt
      have ht := HT.out
      rw [List.take_length] at ht
      have HE := Lib.hid ht
      rw [List.take_length]
      clear hlt ht
      go_wp2
      go_ret2
      exact ⟨by unfold litT; rw [HE.out]; rfl, HB.out⟩
/-- What is put into a row. -/
def WkP (out xs : List (List UInt8)) (w : World) (e : Ending) (w' : World) : Prop := ∃ v, e = .returned v ∧ Sl w' strC 1 v (xs.foldl putL out) ∧ Below w.heap.size w w'
theorem putL_len (s : List UInt8) : ∀ l : List (List UInt8), (putL l s).length ≤ l.length + 1
  | [] => by simp [putL]
  | a :: l => by
    have := putL_len s l
    unfold putL
    split
    · split <;> simp
    · simp; omega
theorem fold_len : ∀ (xs out : List (List UInt8)), (xs.foldl putL out).length ≤ out.length + xs.length
  | [], out => by simp
  | a :: xs, out => by
    have h1 := putL_len a out
    have h2 := fold_len xs (putL out a)
    rw [List.foldl_cons, List.length_cons]
    omega
theorem sl_tail {w : World} {g off c n : Nat} {p : List UInt8} {ps : List (List UInt8)} (hn : n = ps.length) (h : Sl w strC 1 (.slice (some ⟨g, off, none⟩) (n + 1) c) (p :: ps)) : Sl w strC 1 (.slice (some ⟨g, off + 1, none⟩) n (c - 1)) ps := by
  obtain ⟨A', c', e, h1, h2, h3, h4⟩ := h
  injection e with e1 e2 e3
  subst e3
  obtain ⟨b, o, e5, hb, hc⟩ := h4 (by simp)
  rw [← e1] at e5
  injection e5 with e5
  injection e5 with e6 e7
  subst e6 e7 hn
  simp at h1
  refine ⟨_, c - 1, rfl, by omega, by omega, (fun q => by cases q), fun _ => ⟨g, off + 1, rfl, hb, fun k x hx j u hj => ?_⟩⟩
  have := hc (k + 1) x (by simpa using hx) j u hj
  rw [show off + 1 + k * 1 + j = off + (k + 1) * 1 + j by omega]
  exact this
/-- What a text and a path lead to. -/
def stG (x : List Fl) (rest : List (List UInt8)) (text path : List UInt8) : List (List UInt8) :=
  if kindP x path = 0 then [] else if rest = [] then [text] else if kindP x path = 1 then walkG x rest (text ++ [47]) path else []
theorem st_step (x : List Fl) (rest : List (List UInt8)) (text dir a : List UInt8) : stepG x rest text dir a = stG x rest (text ++ a) (cleanL dir a) := rfl
/-- The contract of the reference's Walk. -/
def WalkC (x : List Fl) (ps : List (List UInt8)) : Prop :=
  ∀ (text dir : List UInt8) (out : List (List UInt8)) (vl vo vp : Value) (w : World), ps ≠ [] → Sl w flC 2 vl x → Sl w strC 1 vo out → Sl w strC 1 vp ps → pathB dir = true → text.length + ps.length * 10002 ≤ 134217728 → dir.length + ps.length * 10002 ≤ 134217728 →
    out.length + (walkG x ps text dir).length ≤ 1099511627776 → Calls Tryz.prog 18 #[vl, vo, .string (B text), .string (B dir), vp] w (WkP out (walkG x ps text dir) w)
set_option maxHeartbeats 3200000 in
theorem refStep_any {x : List Fl} (hx : x.length ≤ 1000000) {p : List UInt8} {ps : List (List UInt8)} (ih : WalkC x ps) (text path : List UInt8) (out : List (List UInt8)) (vl vo vp : Value) (w : World) (hl : Sl w flC 2 vl x) (ho : Sl w strC 1 vo out) (hp : Sl w strC 1 vp (p :: ps))
    (ht : text.length + 1 + ps.length * 10002 ≤ 134217728) (hd : path.length + ps.length * 10002 ≤ 134217728) (hn : out.length + (stG x ps text path).length ≤ 1099511627776) :
    Calls Tryz.prog 33 #[vl, vo, .string (B text), .string (B path), vp] w (WkP out (stG x ps text path) w) := by
  have HIP := Lib.hid (refIsPath_any path w (by omega))
  have HKD := Lib.hid fun W (hW : Below w.heap.size w W) => refKind_any x vl path W (hl.below hW) (by omega)
  have HPU := Lib.hid fun W (hW : Below w.heap.size w W) (hn : out.length ≤ 1099511627776) => refPut_any out vo text W (ho.below hW) hn
  have HL := Lib.hid hl
  have HO := Lib.hid ho
  have HPP := Lib.hid hp
  have HI := Lib.hid ih
  obtain ⟨Ap, cp, rfl, hc1, hc2, hpn, hA⟩ := hp
  obtain ⟨g, off, rfl, hg, -⟩ := hA (by simp)
  have ht1 : ((text.length : Int) + 1) ≤ 9223372036854775807 := by omega
  clear hl ho ih hA hpn
  unfold stG at hn ⊢
  cases hpd : pathB path with
  | false =>
    rw [hpd] at HIP
    have hk : kindP x path = 0 := by unfold kindP; rw [hpd]; rfl
    rw [if_pos hk]
    clear hn hk
    go_enter Tryz.func33, Tryz.ntmps33
    go_wp2_with (go_at_call 16; refine HIP.out.mono ?_; rintro e w1 ⟨rfl, hb⟩; have HB := Lib.hid hb; clear hb)
    go_ret
    exact ⟨_, rfl, HO.out.below HB.out, HB.out⟩
  | true =>
    rw [hpd] at HIP
    have hk : kindP x path = kindL x path := by unfold kindP; rw [if_pos hpd]
    rw [hk] at hn ⊢
    have HPD := Lib.hid hpd
    clear hk hpd
    by_cases k0 : kindL x path = 0
    · rw [if_pos k0]
      rw [k0] at HKD
      clear hn k0
      go_enter Tryz.func33, Tryz.ntmps33
      go_wp2_with (first
        | (go_at_call 16; refine HIP.out.mono ?_; rintro e w1 ⟨rfl, hb⟩; have HB := Lib.hid hb; clear hb)
        | (go_at_call 37; refine (HKD.out _ HB.out).mono ?_; rintro e w2 ⟨rfl, rfl⟩))
      go_ret
      exact ⟨_, rfl, HO.out.below HB.out, HB.out⟩
    · rw [if_neg k0] at hn ⊢
      have e0 : (kindL x path == 0) = false := by simpa using k0
      clear k0
      by_cases hs : ps = []
      · subst hs
        rw [if_pos rfl] at hn ⊢
        have HPU := Lib.hid fun W (hW : Below w.heap.size w W) => HPU.out W hW (by omega)
        generalize kindL x path = kd at *
        clear hn
        go_enter Tryz.func33, Tryz.ntmps33
        go_wp2_with (first
          | (go_at_call 16; refine HIP.out.mono ?_; rintro e w1 ⟨rfl, hb⟩; have HB := Lib.hid hb; clear hb)
          | (go_at_call 37; refine (HKD.out _ HB.out).mono ?_; rintro e w2 ⟨rfl, rfl⟩)
          | (go_at_call 30; refine (HPU.out _ HB.out).mono ?_; rintro e w3 ⟨v3, rfl, ho3, hb⟩; have HO3 := Lib.hid ho3; have HB3 := Lib.hid (below_then HB.out hb); clear hb ho3))
        go_ret
        exact ⟨_, rfl, HO3.out.sl (fun _ _ => rfl) rfl, HB3.out⟩
      · rw [if_neg hs] at hn ⊢
        have hl1 : ((((p :: ps).length : Nat) : Int) == 1) = false := by
          have : 0 < ps.length := List.length_pos_iff.2 hs
          rw [beq_eq_false_iff_ne]
          simp
          omega
        have hps : 0 < ps.length := List.length_pos_iff.2 hs
        have hl3 : ((ps.length : Int) + 1 == 1) = false := by rw [beq_eq_false_iff_ne]; omega
        have hl2 : (1 : Int) ≤ (ps.length : Int) + 1 := by omega
        have hcp : ps.length + 1 ≤ cp := hc1
        have hc2' : ¬ 1 = cp := by omega
        have hc3' : ¬ cp = 1 := by omega
        by_cases k1 : kindL x path = 1
        · rw [if_pos k1] at hn ⊢
          rw [k1] at HKD
          have HW := Lib.hid fun W (hW : Below w.heap.size w W) => HI.out (text ++ [47]) path out vl vo (.slice (some ⟨g, off + 1, none⟩) ps.length (cp - 1)) W hs (HL.out.below hW) (HO.out.below hW) ((sl_tail rfl HPP.out).below hW) HPD.out (by simp; omega) hd hn
          have HS := Lib.hid hs
          clear hn k1 e0 hs ht1
          go_enter Tryz.func33, Tryz.ntmps33
          go_wp2_with (first
            | (go_at_call 16; refine HIP.out.mono ?_; rintro e w1 ⟨rfl, hb⟩; have HB := Lib.hid hb; clear hb)
            | (go_at_call 37; refine (HKD.out _ HB.out).mono ?_; rintro e w2 ⟨rfl, rfl⟩)
            | (go_at_call 18; (with_reducible refine (HW.out _ HB.out).mono ?_); rintro e w3 ⟨v3, rfl, ho3, hb⟩; have HO3 := Lib.hid ho3; have HB3 := Lib.hid (below_then HB.out hb); clear hb ho3))
          go_ret
          exact ⟨_, rfl, HO3.out, HB3.out⟩
        · rw [if_neg k1]
          have e1 : (kindL x path == 1) = false := by simpa using k1
          have e2 : (kindL x path != 1) = true := by simpa using k1
          generalize kindL x path = kd at *
          clear hn k1 ht1
          go_enter Tryz.func33, Tryz.ntmps33
          go_wp2_with (first
            | (go_at_call 16; refine HIP.out.mono ?_; rintro e w1 ⟨rfl, hb⟩; have HB := Lib.hid hb; clear hb)
            | (go_at_call 37; refine (HKD.out _ HB.out).mono ?_; rintro e w2 ⟨rfl, rfl⟩))
          go_ret
          exact ⟨_, rfl, HO.out.below HB.out, HB.out⟩
theorem filt_len {f : List UInt8 → List (List UInt8)} {q : List UInt8 → Bool} {l : List (List UInt8)} {k : Nat} {s : List UInt8} (h : l[k]? = some s) (hq : q s = true) : (((l.take k).filter q).flatMap f).length + (f s).length ≤ ((l.filter q).flatMap f).length := by
  obtain ⟨hk, e⟩ := List.getElem?_eq_some_iff.1 h
  conv => rhs; rw [← List.take_append_drop k l, List.drop_eq_getElem_cons hk, e, List.filter_append, List.filter_cons, if_pos hq, List.flatMap_append, List.flatMap_cons, List.length_append, List.length_append]
  omega
set_option maxHeartbeats 6400000 in
theorem refWalk_any {x : List Fl} (hr : RowF x) (hx : x.length ≤ 1000000) (hxl : ∀ f ∈ x, f.path.length ≤ 10000) : ∀ ps : List (List UInt8), (∀ q ∈ ps, q.length ≤ 10000 ∧ (47 : UInt8) ∉ q) → WalkC x ps
  | [], _ => fun _ _ _ _ _ _ _ h => absurd rfl h
  | p :: rest, hq => by
    intro text dir out vl vo vp w _ hl ho hp hd htl hdl hn
    have ih := refWalk_any hr hx hxl rest (fun q h => hq q (by simp [h]))
    have hpq := hq p (by simp)
    simp only [List.length_cons, Nat.add_mul, Nat.one_mul] at htl hdl
    have IH := Lib.hid ih
    have HL := Lib.hid hl
    have HO := Lib.hid ho
    have HPP := Lib.hid hp
    have HR := Lib.hid hr
    have HXL := Lib.hid hxl
    have HD := Lib.hid hd
    obtain ⟨Ap, cp, rfl, hc1, hc2, hpn, hA⟩ := hp
    obtain ⟨g, off, rfl, hg, hcA⟩ := hA (by simp)
    have c0 : w.cell? ⟨g, off, none⟩ = some (.string (B p)) := by have := hcA 0 p rfl 0 _ rfl; simpa using this
    haveI : Old w g := ⟨hg⟩
    have hl0 : (0 : Int) < (rest.length : Int) + 1 := by omega
    clear hl ho ih hA hpn hr hxl hd hcA hq
    by_cases hp0 : p = []
    · subst hp0
      by_cases hs : rest = []
      · subst hs
        have HE := Lib.hid (show walkG x [[]] text dir = [text] by rw [walkG, if_pos rfl, if_pos rfl])
        rw [HE.out] at hn ⊢
        have HPU := Lib.hid fun W (hW : Below w.heap.size w W) => refPut_any out vo text W (HO.out.below hW) (by simp at hn; omega)
        clear hn
        go_enter Tryz.func18, Tryz.ntmps18
        go_wp2_with (go_at_call 30; refine (HPU.out _ (Below.refl _ _)).mono ?_; rintro e w3 ⟨v3, rfl, ho3, hb⟩; have HO3 := Lib.hid ho3; have HB3 := Lib.hid hb; clear hb ho3)
        go_ret
        exact ⟨_, rfl, HO3.out.sl (fun _ _ => rfl) rfl, HB3.out⟩
      · have hps : 0 < rest.length := List.length_pos_iff.2 hs
        have hl3 : ((rest.length : Int) + 1 == 1) = false := by rw [beq_eq_false_iff_ne]; omega
        have hl2 : (1 : Int) ≤ (rest.length : Int) + 1 := by omega
        have hcp : rest.length + 1 ≤ cp := hc1
        have hc2' : ¬ 1 = cp := by omega
        have hc3' : ¬ cp = 1 := by omega
        have HE := Lib.hid (show walkG x ([] :: rest) text dir = walkG x rest (text ++ [47]) dir by rw [walkG, if_pos rfl, if_neg hs])
        rw [HE.out] at hn ⊢
        have HW := Lib.hid fun W (hW : Below w.heap.size w W) => IH.out (text ++ [47]) dir out vl vo (.slice (some ⟨g, off + 1, none⟩) rest.length (cp - 1)) W hs (HL.out.below hW) (HO.out.below hW) ((sl_tail rfl HPP.out).below hW) HD.out (by simp; omega) (by omega) hn
        clear hn hs
        go_enter Tryz.func18, Tryz.ntmps18
        go_wp2_with (go_at_call 18; (with_reducible refine (HW.out _ (Below.refl _ _)).mono ?_); rintro e w3 ⟨v3, rfl, ho3, hb⟩; have HO3 := Lib.hid ho3; have HB3 := Lib.hid hb; clear hb ho3)
        go_ret
        exact ⟨_, rfl, HO3.out, HB3.out⟩
    have hpe : (p == []) = false := by simpa using hp0
    have HPA := Lib.hid fun W => parse_ref p W (by omega)
    unfold ParseP at HPA
    have HLT := Lib.hid fun W (v : Value) (h : Sl W atC 6 v (parse p)) => refLit_any (parse p) v W h (by have := parse_len p; omega)
    have HST := Lib.hid (walkG_step x hp0 rest text dir)
    rw [HST.out] at hn ⊢
    have HP0 := Lib.hid hp0
    have HN47 := Lib.hid fun a (ha : a ∈ nameG x dir p) => nameG_len HXL.out hpq.1 ha
    cases hlit : litB (parse p) with
    | true =>
      rw [hlit] at HLT
      have hng : nameG x dir p = [litT (parse p)] := by unfold nameG; rw [if_pos hlit]
      have hnl := HN47.out (litT (parse p)) (by rw [hng]; simp)
      have hcl := clean_len2 dir (litT (parse p))
      rw [hng, List.flatMap_cons, List.flatMap_nil, List.append_nil, st_step] at hn ⊢
      generalize litT (parse p) = a at *
      have HC := Lib.hid fun W => refClean_any dir a W (by omega) (by omega)
      have HS := Lib.hid fun W (hW : Below w.heap.size w W) => refStep_any hx IH.out (text ++ a) (cleanL dir a) out vl vo (.slice (some ⟨g, off, none⟩) (rest.length + 1) cp) W (HL.out.below hW) (HO.out.below hW) (HPP.out.below hW) (by simp; omega) (by omega) hn
      have hta : ((text.length : Int) + a.length) ≤ 9223372036854775807 := by omega
      clear hn hng hlit hp0 hcl
      go_enter Tryz.func18, Tryz.ntmps18
      go_wp2_with (first
        | (go_at_call 31; refine (HPA.out _).mono ?_; rintro e w1 ⟨v1, rfl, hs1, hb⟩; have HS1 := Lib.hid hs1; have HB1 := Lib.hid hb; clear hb hs1)
        | (go_at_call 32; refine (HLT.out _ _ HS1.out).mono ?_; rintro e w2 ⟨rfl, hb⟩; have HB2 := Lib.hid (below_then HB1.out hb); clear hb)
        | (go_at_call 34; refine (HC.out _).mono ?_; rintro e w3 ⟨rfl, hb⟩; have HB3 := Lib.hid (below_then HB2.out hb); clear hb)
        | (go_at_call 33; (with_reducible refine (HS.out _ HB3.out).mono ?_); rintro e w4 ⟨v4, rfl, ho4, hb⟩; have HO4 := Lib.hid ho4; have HB4 := Lib.hid (below_then HB3.out hb); clear hb ho4))
      go_ret
      exact ⟨_, rfl, HO4.out, HB4.out⟩
    | false =>
      rw [hlit] at HLT
      have hng : nameG x dir p = (liL x dir).filter (mayG p) := by unfold nameG; rw [if_neg (by rw [hlit]; decide)]
      rw [hng] at hn ⊢
      rw [hng] at HN47
      have HNM := Lib.hid fun W => refNames_any x vl dir W
      rw [names_li HR.out HD.out] at HNM
      have HNM := Lib.hid fun W (hW : Below w.heap.size w W) => HNM.out W (HL.out.below hW) hx (fun f hf => by have := HXL.out f hf; omega)
      have HMT := Lib.hid fun (a v : _) (W : World) (h : Sl W atC 6 v (parse p)) (ha : a.length ≤ 1073741824) => match_ref (parse p) a v W h (by have := parse_len p; omega) ha
      have HNZ := Lib.hid fun a (ha : a ∈ liL x dir) => (show a.length ≤ 10000 ∧ a ≠ [] from ⟨by obtain ⟨f, hf, hfl⟩ := liL_mem ha; have := HXL.out f hf; omega, (name_no (li_path HR.out ha).1).2.1⟩)
      have HFS := Lib.hid fun (k : Nat) (s : List UInt8) (h : (liL x dir)[k]? = some s) (hq : mayG p s = true) => (show ((((liL x dir).take (k + 1)).filter (mayG p)).flatMap (stepG x rest text dir)) = ((((liL x dir).take k).filter (mayG p)).flatMap (stepG x rest text dir)) ++ stG x rest (text ++ s) (cleanL dir s) by
        rw [List.take_add_one, h, List.filter_append, List.flatMap_append]; simp [hq, st_step])
      have HFN := Lib.hid fun (k : Nat) (s : List UInt8) (h : (liL x dir)[k]? = some s) (hq : mayG p s = false) => (show ((((liL x dir).take (k + 1)).filter (mayG p)).flatMap (stepG x rest text dir)) = ((((liL x dir).take k).filter (mayG p)).flatMap (stepG x rest text dir)) by
        rw [List.take_add_one, h, List.filter_append, List.flatMap_append]; simp [hq])
      have HLN := Lib.hid fun (k : Nat) (s : List UInt8) (h : (liL x dir)[k]? = some s) (hq : mayG p s = true) => (show out.length + ((((((liL x dir).take k).filter (mayG p)).flatMap (stepG x rest text dir))).length + (stG x rest (text ++ s) (cleanL dir s)).length) ≤ 1099511627776 by
        have := filt_len (f := stepG x rest text dir) (q := mayG p) h hq
        rw [st_step] at this
        omega)
      have HC := Lib.hid fun a (ha : a.length ≤ 10000) W => refClean_any dir a W (by omega) (by omega)
      have HS := Lib.hid fun (a : List UInt8) (ha : a.length ≤ 10000) (acc : List (List UInt8)) (vo : Value) W (hW : Below w.heap.size w W) (ho : Sl W strC 1 vo (acc.foldl putL out)) (hn : out.length + (acc.length + (stG x rest (text ++ a) (cleanL dir a)).length) ≤ 1099511627776) =>
        refStep_any hx IH.out (text ++ a) (cleanL dir a) (acc.foldl putL out) vl vo (.slice (some ⟨g, off, none⟩) (rest.length + 1) cp) W (HL.out.below hW) ho (HPP.out.below hW) (by simp; omega) (by have := clean_len2 dir a; omega) (by have := fold_len acc out; omega)
      have HMY := Lib.hid fun a => (show mayG p a = ((!(a.head? == some 46) || p.head? == some 46) && gm (parse p) a) from rfl)
      generalize liL x dir = N at *
      clear hlit hng hn hp0
      go_enter Tryz.func18, Tryz.ntmps18
      go_wp2_with (first
        | (go_at_call 31; refine (HPA.out _).mono ?_; rintro e w1 ⟨v1, rfl, hs1, hb⟩; have HS1 := Lib.hid hs1; have HB1 := Lib.hid hb; clear hb hs1)
        | (go_at_call 32; refine (HLT.out _ _ HS1.out).mono ?_; rintro e w2 ⟨rfl, hb⟩; have HS2 := Lib.hid (HS1.out.below hb); have HB2 := Lib.hid (below_then HB1.out hb); clear hb)
        | (go_at_call 35; refine (HNM.out _ HB2.out).mono ?_; rintro e w3 ⟨vn, rfl, ho, hb⟩; have HON := Lib.hid ho; have HS3 := Lib.hid (HS2.out.below hb); have HB3 := Lib.hid (below_then HB2.out hb); clear hb ho))
      obtain ⟨An, cn, rfl, hAn⟩ := HON.out.form0
      have HAN := Lib.hid hAn
      have HNL := Lib.hid (show N.length ≤ 9223372036854775807 by
        rcases Nat.eq_zero_or_pos N.length with h0 | h0
        · omega
        · obtain ⟨_, _, _, _, _, _, q1, q2⟩ := HON.out.form' h0
          omega)
      clear hAn HNM HLT HPA
      go_loopw [1, 15] (fun o i W => ∃ (k : Nat) (u : Value), u = o ∧ k ≤ N.length ∧ i = .int .i64 k ∧ Hid (Sl W strC 1 u ((((N.take k).filter (mayG p)).flatMap (stepG x rest text dir)).foldl putL out)) ∧ Hid (Below w3.heap.size w3 W)) (fun _ i _ => N.length - (intOf i).toNat)
      case atStart => exact ⟨0, _, rfl, by omega, rfl, (HO.out.below HB3.out), Below.refl _ _⟩
      case round =>
        obtain ⟨k, u, rfl, hk, rfl, HU, HB⟩ := hrel
        have HBW := Lib.hid (below_then HB3.out HB.out)
        have hbs := HB.out.size
        by_cases hlt : k < N.length
        rotate_left
        · have hk2 : k = N.length := by omega
          subst hk2
          have d0 := no hlt
          have hu := HU.out
          rw [List.take_length] at hu
          have HU2 := Lib.hid hu
          clear hu
          go_wp2
          go_ret
          exact ⟨_, rfl, HU2.out, HBW.out⟩
        obtain ⟨gn, offn, rfl⟩ := HAN.out (by omega)
        obtain ⟨s, hs⟩ := get_some hlt
        obtain ⟨-, hg2, e0⟩ := Glob.own_str HON.out hs
        have e0 := (HB.out.cell (p := ⟨gn, offn + k, none⟩) hg2).trans e0
        haveI : Old wr gn := ⟨World.block_lt_of_cell? _ _ e0⟩
        have c1 := (HBW.out.cell (p := ⟨g, off, none⟩) hg).trans c0
        haveI : Old wr g := ⟨World.block_lt_of_cell? _ _ c1⟩
        have k0 : (0 : Int) ≤ (k : Int) := by omega
        have k1 : (k : Int) < (N.length : Int) := by omega
        obtain ⟨hsl, hsn⟩ := HNZ.out s (List.mem_of_getElem? hs)
        have HGM := Lib.hid fun W (hW : Below wr.heap.size wr W) => HMT.out s _ W ((HS3.out.below HB.out).below hW) (by omega)
        have HSK := Lib.hid hs
        obtain ⟨p0, pr, rfl⟩ : ∃ p0 pr, p = p0 :: pr := by cases p with | nil => exact absurd rfl HP0.out | cons a b => exact ⟨a, b, rfl⟩
        obtain ⟨c, r, rfl⟩ : ∃ c r, s = c :: r := by cases s with | nil => exact absurd rfl hsn | cons a b => exact ⟨a, b, rfl⟩
        have hN := HNL.out
        clear hs hsn hlt
        by_cases hc : c = 46
        · have t1 := is_b (n := 46) rfl hc
          have t2 := is_nb (n := 46) rfl hc
          by_cases hp1 : p0 = 46
          · have t3 := is_b (n := 46) rfl hp1
            have hmm : (!((c :: r).head? == some 46) || (p0 :: pr).head? == some 46) = true := by rw [hc, hp1]; rfl
            clear hc hp1
            cases hgm : gm (parse (p0 :: pr)) (c :: r) with
            | false =>
              have HMF := Lib.hid (HFN.out k _ HSK.out (by rw [HMY.out, hgm, Bool.and_false]))
              rw [hgm] at HGM
              clear hgm
              go_wp2_with (go_at_call 36; refine (HGM.out _ (Below.refl _ _)).mono ?_; rintro e w5 ⟨rfl, hb⟩; have HB5 := Lib.hid hb; clear hb)
              go_roundw
              case rel => exact ⟨k + 1, u, rfl, by omega, by go_num, by rw [HMF.out]; exact HU.out.below HB5.out, below_then HB.out HB5.out⟩
              case measure => simp [intOf]; omega
            | true =>
              have hmy : mayG (p0 :: pr) (c :: r) = true := by rw [HMY.out, hgm, Bool.and_true]; exact hmm
              have HMF := Lib.hid (HFS.out k _ HSK.out hmy)
              have HLK := Lib.hid (HLN.out k _ HSK.out hmy)
              rw [hgm] at HGM
              clear hgm hmy
              have HCL := Lib.hid fun W => HC.out (c :: r) hsl W
              go_wp2_with (go_at_call 36; refine (HGM.out _ (Below.refl _ _)).mono ?_; rintro e w5 ⟨rfl, hb⟩; have HB5 := Lib.hid hb; have q0 := (hb.cell (p := ⟨gn, offn + k, none⟩) (World.block_lt_of_cell? _ _ e0)).trans e0; haveI : Old w5 gn := ⟨World.block_lt_of_cell? _ _ q0⟩; clear hb)
              have hta : ((text.length : Int) + ((r.length : Int) + 1)) ≤ 9223372036854775807 := by rw [List.length_cons] at hsl; omega
              (refine wp_region_grow_mid 15 (by kernel_rfl) (by kernel_rfl) rfl ?_; simp only [List.take_succ_cons, List.take_zero, List.drop_succ_cons, List.drop_zero]; (repeat (go_big_quiet_step ((go_at_call 34; exact grow_of (HCL.out _))))); refine wpQuiet_nil ?_; intro _ hw'; obtain ⟨gq, hw''⟩ := hw'; subst hw''; intro K hK; go_simp; ((go_at_call 33; (with_reducible refine (HS.out (c :: r) hsl _ _ _ (below_grow (below_then HBW.out HB5.out) _) ((HU.out.below HB5.out).below (grow_below _ _)) HLK.out).mono ?_); rintro e w6 ⟨v6, rfl, ho6, hb⟩; have HO6 := Lib.hid ho6; have HB6 := Lib.hid (below_then (below_grow (below_then HB.out HB5.out) _) hb); clear hb ho6)); refine hK.out _ _ ?_; clear hK K; (repeat (go_big_quiet_step (fail))); refine wpQuiet_nil ?_; intro _ hw'; obtain ⟨gq2, hw''⟩ := hw'; subst hw'')
              have HO7 := Lib.hid (HO6.out.below (grow_below w6 gq2))
              have HB7 := Lib.hid (below_grow HB6.out gq2)
              generalize grow w6 gq2 = W6 at *
              go_wp2_with fail
              go_roundw
              case rel => exact ⟨k + 1, v6, rfl, by omega, by go_num, by show Sl _ _ _ _ _; rw [HMF.out, List.foldl_append]; exact HO7.out, HB7.out⟩
              case measure => simp [intOf]; omega
          · have t3 := not_b (n := 46) rfl hp1
            have HMF := Lib.hid (HFN.out k _ HSK.out (by rw [HMY.out, show (!((c :: r).head? == some 46) || (p0 :: pr).head? == some 46) = false by simp [hc, hp1], Bool.false_and]))
            clear hc hp1
            go_wp2_with fail
            go_roundw
            case rel => exact ⟨k + 1, u, rfl, by omega, by go_num, by rw [HMF.out]; exact HU.out, HB.out⟩
            case measure => simp [intOf]; omega
        · have t1 := not_b (n := 46) rfl hc
          have t2 := not_nb (n := 46) rfl hc
          have hmm : (!((c :: r).head? == some 46) || (p0 :: pr).head? == some 46) = true := by simp [hc]
          clear hc
          cases hgm : gm (parse (p0 :: pr)) (c :: r) with
          | false =>
            have HMF := Lib.hid (HFN.out k _ HSK.out (by rw [HMY.out, hgm, Bool.and_false]))
            rw [hgm] at HGM
            clear hgm
            go_wp2_with (go_at_call 36; refine (HGM.out _ (Below.refl _ _)).mono ?_; rintro e w5 ⟨rfl, hb⟩; have HB5 := Lib.hid hb; clear hb)
            go_roundw
            case rel => exact ⟨k + 1, u, rfl, by omega, by go_num, by rw [HMF.out]; exact HU.out.below HB5.out, below_then HB.out HB5.out⟩
            case measure => simp [intOf]; omega
          | true =>
            have hmy : mayG (p0 :: pr) (c :: r) = true := by rw [HMY.out, hgm, Bool.and_true]; exact hmm
            have HMF := Lib.hid (HFS.out k _ HSK.out hmy)
            have HLK := Lib.hid (HLN.out k _ HSK.out hmy)
            rw [hgm] at HGM
            clear hgm hmy
            have HCL := Lib.hid fun W => HC.out (c :: r) hsl W
            go_wp2_with (go_at_call 36; refine (HGM.out _ (Below.refl _ _)).mono ?_; rintro e w5 ⟨rfl, hb⟩; have HB5 := Lib.hid hb; have q0 := (hb.cell (p := ⟨gn, offn + k, none⟩) (World.block_lt_of_cell? _ _ e0)).trans e0; haveI : Old w5 gn := ⟨World.block_lt_of_cell? _ _ q0⟩; clear hb)
            have hta : ((text.length : Int) + ((r.length : Int) + 1)) ≤ 9223372036854775807 := by rw [List.length_cons] at hsl; omega
            (refine wp_region_grow_mid 15 (by kernel_rfl) (by kernel_rfl) rfl ?_; simp only [List.take_succ_cons, List.take_zero, List.drop_succ_cons, List.drop_zero]; (repeat (go_big_quiet_step ((go_at_call 34; exact grow_of (HCL.out _))))); refine wpQuiet_nil ?_; intro _ hw'; obtain ⟨gq, hw''⟩ := hw'; subst hw''; intro K hK; go_simp; ((go_at_call 33; (with_reducible refine (HS.out (c :: r) hsl _ _ _ (below_grow (below_then HBW.out HB5.out) _) ((HU.out.below HB5.out).below (grow_below _ _)) HLK.out).mono ?_); rintro e w6 ⟨v6, rfl, ho6, hb⟩; have HO6 := Lib.hid ho6; have HB6 := Lib.hid (below_then (below_grow (below_then HB.out HB5.out) _) hb); clear hb ho6)); refine hK.out _ _ ?_; clear hK K; (repeat (go_big_quiet_step (fail))); refine wpQuiet_nil ?_; intro _ hw'; obtain ⟨gq2, hw''⟩ := hw'; subst hw'')
            have HO7 := Lib.hid (HO6.out.below (grow_below w6 gq2))
            have HB7 := Lib.hid (below_grow HB6.out gq2)
            generalize grow w6 gq2 = W6 at *
            go_wp2_with fail
            go_roundw
            case rel => exact ⟨k + 1, v6, rfl, by omega, by go_num, by show Sl _ _ _ _ _; rw [HMF.out, List.foldl_append]; exact HO7.out, HB7.out⟩
            case measure => simp [intOf]; omega
end Go.Proofs.YtnecmpgcjgkheaaGreat.Glob
