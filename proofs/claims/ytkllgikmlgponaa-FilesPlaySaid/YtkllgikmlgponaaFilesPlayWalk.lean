/-
  The walk of the law FilesPlay: it returns true, whatever its arguments. Conditions: the library's variable MaxLen holds some number (arguments as the row reads them).
-/
import Derived.Test.YtkllgikmlgponaaTree12
import Derived.Test.YtkllgikmlgponaaTree5
import Derived.Test.YtkllgikmlgponaaOpen
namespace Go.Proofs.Ytkllgikmlgponaa.filesPlay
open Go.ChangeShapes Go.WideShapes Go.Deep Go.ChangeAt Go.RowKit Fil Pat
set_option maxRecDepth 100000
set_option linter.unusedVariables false
structure Ac where
  kind : Int
  what : Int
  path : List UInt8
def acC (a : Ac) : List Value := [.int .i64 a.kind, .int .i64 a.what, .string (B a.path)]
def AcOk (x : Ac) : Prop := True
theorem ac_cells : Try.prog.cellsOf 70 = 3 := by kernel_rfl
theorem ac_dec {H : Type} {enc : TypeId × Value → H} {w : World} {fuel : Nat} {cs : List Value} {d : DataW H × List MemPlace}
    (h : DataW.trod enc Try.prog w 0 (fun _ => true) true fuel 70 cs = some d) : ∃ x : Ac, cs = acC x ∧ AcOk x := by
  obtain ⟨ys, n, _, _, hl, hyl, hf⟩ := DataW.trod_struct Try.underlying70 h
  rw [ac_cells] at hl
  match cs, hl with
  | [c0, c1, c2], _ =>
    have k0 : Try.prog.cellsOf 9 = 1 := by kernel_rfl
    have k1 : Try.prog.cellsOf 3 = 1 := by kernel_rfl
    have h0 := hf 0 _ rfl
    have h1 := hf 1 _ rfl
    have h2 := hf 2 _ rfl
    simp [k0, k1] at h0 h1 h2
    have hy0 : ys[0]? = some (ys[0]'(by rw [hyl]; decide)) := List.getElem?_eq_getElem _
    obtain ⟨s0, e0, _, w0⟩ := DataW.trod_int Try.underlying3 (h0.trans hy0)
    have hy1 : ys[1]? = some (ys[1]'(by rw [hyl]; decide)) := List.getElem?_eq_getElem _
    obtain ⟨s1, e1, _, w1⟩ := DataW.trod_int Try.underlying3 (h1.trans hy1)
    have hy2 : ys[2]? = some (ys[2]'(by rw [hyl]; decide)) := List.getElem?_eq_getElem _
    obtain ⟨s2, e2, _, w2⟩ := DataW.trod_string Try.underlying9 (h2.trans hy2)
    obtain ⟨a2, rfl⟩ := B_all s2
    simp at e0
    simp at e1
    simp at e2
    subst e0
    subst e1
    subst e2
    exact ⟨⟨s0, s1, a2⟩, rfl, trivial⟩
/-- What holds at each round. -/
structure PI (w w1 : World) (k : Nat) (x : List Fl) (u : Value) (W : World) : Prop where
  s : Sl W flC 2 u x
  t : ∃ nb mp, TreeAt W w1.heap.size (w1.heap.size + 1) x nb mp ∧ (0 < x.length → ∀ j, u.ownBlock = some j → ¬ inTree (w1.heap.size + 1) x nb mp j)
  b : Below w.heap.size w W
  z : w1.heap.size ≤ W.heap.size
  l : x.length ≤ k
  p : ∀ f ∈ x, f.path.length ≤ 300
theorem PI.on {w w1 W W' : World} {k : Nat} {x : List Fl} {u : Value} (h : PI w w1 k x u W) (hb : Below W.heap.size W W') : PI w w1 k x u W' := by
  obtain ⟨nb, mp, ht, hn⟩ := h.t
  exact ⟨h.s.below hb, ⟨nb, mp, ht.below hb, hn⟩, below_then h.b hb, Nat.le_trans h.z hb.size, h.l, h.p⟩
theorem PI.more {w w1 W : World} {k : Nat} {x : List Fl} {u : Value} (h : PI w w1 k x u W) : PI w w1 (k + 1) x u W := ⟨h.s, h.t, h.b, h.z, Nat.le_succ_of_le h.l, h.p⟩
theorem sl_any {F : Nat → Prop} {W W' : World} {x : List Fl} {u : Value} (h : Sl W flC 2 u x) (hk : Keeps F W W') (hne : 0 < x.length → ∀ k, u.ownBlock = some k → ¬ F k) : Sl W' flC 2 u x := by
  rcases Nat.eq_zero_or_pos x.length with h0 | h0
  · obtain rfl := List.eq_nil_of_length_eq_zero h0
    obtain ⟨A, c, e, h2, h3, h4, _⟩ := h
    exact ⟨A, c, e, h2, h3, h4, fun q => by simp at q⟩
  · exact h.keeps hk fun k hk _ => hne h0 k hk
theorem rmL_le (x : List Fl) (p : List UInt8) : (rmL x p).length ≤ x.length := by
  unfold rmL
  split
  · exact List.length_filter_le _ _
  · exact Nat.le_refl _
theorem rmL_mem {x : List Fl} {p : List UInt8} {f : Fl} (h : f ∈ rmL x p) : f ∈ x := by
  unfold rmL at h
  split at h
  · exact (List.mem_filter.1 h).1
  · exact h
/-- A step: the reference's row first, the tree then. -/
theorem PI.step {w w1 W W4 W5 : World} {k : Nat} {x y : List Fl} {u v : Value} {nb : List (List UInt8) → Nat} {mp : List (List UInt8) → Option Nat} {n : Int} {e : Ending} (h : PI w w1 k x u W) (hz : w.heap.size ≤ w1.heap.size) (ht : TreeAt W w1.heap.size (w1.heap.size + 1) x nb mp) (hn : 0 < x.length → ∀ j, u.ownBlock = some j → ¬ inTree (w1.heap.size + 1) x nb mp j)
    (hs : Sl W4 flC 2 v y) (hb : Below W.heap.size W W4) (hf : 0 < y.length → ∀ k, v.ownBlock = some k → (u.ownBlock = some k ∧ 0 < x.length) ∨ W.heap.size ≤ k)
    (hm : MakeP w1.heap.size (w1.heap.size + 1) x y nb mp n W4 e W5) (hl : y.length ≤ k + 1) (hp : ∀ f ∈ y, f.path.length ≤ 300) : PI w w1 (k + 1) y v W5 := by
  have hnot : 0 < y.length → ∀ j, v.ownBlock = some j → ¬ inTree (w1.heap.size + 1) x nb mp j := fun hy j hj q => by
    have hlt := inTree_lt ht q
    rcases hf hy j hj with z | z
    · exact hn z.2 j z.1 q
    · omega
  obtain ⟨nb', mp', ht', hin⟩ := hm.t
  have hs5 := sl_any hs hm.k (fun hy j hj q => hnot hy j hj q.1)
  refine ⟨hs5, ⟨nb', mp', ht', fun hy j hj q => ?_⟩, below_keeps (below_then h.b hb) hm.k (fun j q => by have := q.2; omega), Nat.le_trans h.z (Nat.le_trans hb.size hm.k.size), hl, hp⟩
  rcases hin j q with z | z
  · exact hnot hy j hj z
  · obtain ⟨A, c, rfl, _, _, _, h4⟩ := hs
    obtain ⟨b, off, e1, hlt, _⟩ := h4 hy
    subst e1
    simp only [Value.ownBlock, Option.map_some, Option.some.injEq] at hj
    omega
set_option maxHeartbeats 12800000 in
theorem walk {H : Type} (enc : TypeId × Value → H) (w : World) (base : Nat) {v0 : Value} {d0 : DataW H} {p0 : List MemPlace} (hm : MaxL w)
    (h0 : DataW.Trod enc Try.prog w 0 (fun _ => true) true 67 v0 d0 p0) (k0 : Value.okWide Try.prog w .any base 67 v0) :
    Calls Try.prog 9 #[v0] w fun e w' => e = .returned (.bool true) ∧ Below w.heap.size w w' := by
  obtain ⟨l, hv, -, hxl⟩ := open_sl acC AcOk Try.underlying67 ac_cells (by omega) ac_dec h0 k0
  clear h0 k0
  have HAW := Lib.hid (awake18_any w hm)
  have HM := Lib.hid hm
  obtain ⟨A, c, rfl, hc1, hc2, hn, hA⟩ := hv
  have HA := Lib.hid hA
  clear hA hn hm hxl
  by_cases l1 : 30 < l.length
  · go_enter Try.func9, Try.ntmps9
    go_wp2_with (go_at_call 24; refine HAW.out.mono ?_; rintro e w1 ⟨rfl, hb⟩; have HB := Lib.hid hb; clear hb)
    go_ret
    exact ⟨rfl, HB.out⟩
  have c1 := no (show ¬ (30 : Int) < (l.length : Int) by omega)
  have hl30 : l.length ≤ 30 := by omega
  have HNW := Lib.hid newTree_any
  clear l1
  go_enter Try.func9, Try.ntmps9
  go_wp2_with (first
    | (go_at_call 24; refine HAW.out.mono ?_; rintro e w1 ⟨rfl, hb⟩; have HB1 := Lib.hid hb; clear hb)
    | (go_at_call 36; refine (HNW.out w1).mono ?_; rintro e w2 ⟨rfl, ht, hb⟩; have HT2 := Lib.hid ht; have HB2 := Lib.hid hb; clear ht hb))
  have hwz := HB1.out.size
  go_loopw [4, 5] (fun o i w' => ∃ (k : Nat) (u : Value) (x : List Fl) (W : World), u = o ∧ k ≤ l.length ∧ i = .int .i64 k ∧ W = w' ∧ PI w w1 k x u W) (fun _ i _ => l.length - (intOf i).toNat)
  case atStart => exact ⟨0, _, [], _, rfl, by omega, rfl, rfl, Sl.nil _ _ _, ⟨_, _, HT2.out, fun h => by simp at h⟩, below_then HB1.out HB2.out, HB2.out.size, by simp, by simp⟩
  case round =>
    obtain ⟨k, u, x, W, rfl, hk, rfl, rfl, H0⟩ := hrel
    have HP0 := Lib.hid H0
    have hbs := H0.b.size
    have hwz2 := H0.z
    clear H0
    by_cases hlt : k < l.length
    · obtain ⟨b, off, rfl, hb, hc⟩ := HA.out (by omega)
      obtain ⟨q, hqm⟩ := get_some hlt
      have EC := Lib.hid fun W (hW : Below w.heap.size w W) => (show W.cell? ⟨b, off + k * 3, none⟩ = some (.int .i64 q.kind) ∧ W.cell? ⟨b, off + k * 3 + 1, none⟩ = some (.int .i64 q.what) ∧ W.cell? ⟨b, off + k * 3 + 2, none⟩ = some (.string (B q.path)) from
        ⟨(hW.cell (p := ⟨b, off + k * 3, none⟩) hb).trans (by have := hc k _ hqm 0 _ rfl; simpa using this), (hW.cell (p := ⟨b, off + k * 3 + 1, none⟩) hb).trans (hc k _ hqm 1 _ rfl), (hW.cell (p := ⟨b, off + k * 3 + 2, none⟩) hb).trans (hc k _ hqm 2 _ rfl)⟩)
      obtain ⟨e0, e1, e2⟩ := EC.out W HP0.out.b
      haveI : Old W b := ⟨World.block_lt_of_cell? _ _ e0⟩
      have k0 : (0 : Int) ≤ (k : Int) := by omega
      have k1 : (k : Int) < (l.length : Int) := by omega
      clear hc hqm
      by_cases n1 : 300 < q.path.length
      · go_wp2_with fail
        go_ret
        exact ⟨rfl, HP0.out.b⟩
      have q1 := no (show ¬ (300 : Int) < (q.path.length : Int) by omega)
      have hq300 : q.path.length ≤ 300 := by omega
      clear n1
      have hxl := HP0.out.l
      have hxp := HP0.out.p
      obtain ⟨nb, mp, ht, hno⟩ := HP0.out.t
      have HT := Lib.hid ht
      have HNO := Lib.hid hno
      have HXP := Lib.hid hxp
      have hs0 := HP0.out.s
      clear ht hno hxp
      by_cases t0 : q.kind = 0
      · have t1 : (q.kind == 0) = true := by simpa using t0
        have HRM := Lib.hid (refMake_any x u q.path q.what W hs0 (by omega) (by omega))
        have HTM := Lib.hid fun W' (hW : Below W.heap.size W W') => make_any W' w1.heap.size (w1.heap.size + 1) x nb mp q.path q.what (HT.out.below hW) (HM.out.below (below_then HP0.out.b hW)) (by omega) (by omega) (by have := hW.size; omega)
        have hml := makeL_len x q.path q.what
        have HML := Lib.hid fun f (hf : f ∈ makeL x q.path q.what) => (show f.path.length ≤ 300 from (makeL_mem hf).elim (fun z => HXP.out f z) (fun z => by rw [z]; exact hq300))
        generalize hyy : makeL x q.path q.what = y at *
        generalize makeN x q.path q.what = n at *
        clear t0 hs0
        go_upto_region 26 with (first
          | (go_at_call 32; (with_reducible refine HRM.out.mono ?_); rintro e w4 ⟨v4, rfl, ho4, hb4, hf4⟩; obtain ⟨e04, e14, e24⟩ := EC.out w4 (below_then HP0.out.b hb4); haveI : Old w4 b := ⟨World.block_lt_of_cell? _ _ e04⟩; have HO4 := Lib.hid ho4; have HB4 := Lib.hid hb4; have HF4 := Lib.hid hf4; clear ho4 hb4 hf4)
          | (go_at_call 37; (with_reducible refine (HTM.out _ HB4.out).mono ?_); rintro e w5 hm5; have HPI := Lib.hid (HP0.out.step hwz HT.out HNO.out HO4.out HB4.out HF4.out hm5 (by omega) HML.out); obtain rfl := hm5.e; clear hm5))
        clear HP0 HT HNO HRM HTM HO4 HB4 HF4 HML hml
        obtain ⟨nb5, mp5, ht5, -⟩ := HPI.out.t
        have hs5 := HPI.out.s
        have hyl := HPI.out.l
        have hyp := HPI.out.p
        have HLI := Lib.hid (list_any w5 w1.heap.size (w1.heap.size + 1) y nb5 mp5 q.path ht5 (HM.out.below HPI.out.b) (by omega) (by omega))
        have HKT := Lib.hid fun V (hW : Below w5.heap.size w5 V) => kind_any V w1.heap.size (w1.heap.size + 1) y nb5 mp5 q.path (ht5.below hW) (HM.out.below (below_then HPI.out.b hW)) (by omega)
        have HRP := Lib.hid fun V => refIsPath_any q.path V (by omega)
        have HRK := Lib.hid fun V (hW : Below w5.heap.size w5 V) => refKind_any y v4 q.path V (hs5.below hW) (by omega)
        have HRN := Lib.hid fun V (hW : Below w5.heap.size w5 V) => refNames_any y v4 q.path V (hs5.below hW) (by omega) (fun f hf => by have := hyp f hf; omega)
        have HRI := Lib.hid fun V (hW : Below w5.heap.size w5 V) => right_any V w1.heap.size (w1.heap.size + 1) y y nb5 mp5 v4 (ht5.below hW) (by omega) (fun f hf => by have := hyp f hf; omega) (hs5.below hW) (List.Perm.refl _)
        have hkr : kindL y q.path = 0 ∨ (1 ≤ kindL y q.path ∧ pathB q.path = true) ∨ pathB q.path = false := by
          cases hpb : pathB q.path with
          | false => exact .inr (.inr rfl)
          | true =>
            have := kd_kind ht5.ok hpb
            cases hk : kd y (nms q.path) with
            | none => rw [hk] at this; exact .inl this
            | some kk => rw [hk] at this; have h2 := kd_pos ht5.ok hk; simp at this; exact .inr (.inl ⟨by omega, rfl⟩)
        unfold ListP liL at HLI
        have hln : liN y q.path = if pathB q.path = true then (if kindL y q.path = 0 then 3 else if kindL y q.path = 1 then 0 else 11) else 10 := rfl
        generalize liN y q.path = ln at *
        generalize kindL y q.path = kv at *
        generalize namesR y q.path = ns at *
        clear hs5 ht5 hyp
        cases hpb : pathB q.path with
        | false =>
          rw [hpb] at HRP HKT
          rw [hpb, if_neg (by simp)] at hln
          subst hln
          simp only [Bool.false_eq_true, if_false] at HKT
          rw [if_neg (by decide)] at HLI
          clear hkr hpb
          as_aux_lemma =>
            go_wp2_with (first
              | (go_at_call 40; (with_reducible refine HLI.out.mono ?_); rintro e w6 ⟨v6, rfl, ho6, hb6⟩; obtain ⟨A6, c6, rfl, -⟩ := ho6.form0; have HO6 := Lib.hid ho6; have HB6 := Lib.hid hb6; clear ho6 hb6)
              | (go_at_call 26; refine (HRP.out _).mono ?_; rintro e w7 ⟨rfl, hb7⟩; have HB7 := Lib.hid (below_then HB6.out hb7); have HO7 := Lib.hid (HO6.out.below hb7); clear hb7)
              | (go_at_call 41; (with_reducible refine (HRK.out _ HB7.out).mono ?_); rintro e w8 ⟨rfl, rfl⟩)
              | (go_at_call 42; (with_reducible refine (HKT.out _ HB7.out).mono ?_); rintro e w9 ⟨rfl, hb9⟩; have HB9 := Lib.hid (below_then HB7.out hb9); have HO9 := Lib.hid (HO7.out.below hb9); clear hb9)
              | (go_at_call 44; (with_reducible refine (HRN.out _ HB9.out).mono ?_); rintro e w10 ⟨v10, rfl, ho10, hb10⟩; have HO10 := Lib.hid ho10; have HB10 := Lib.hid (below_then HB9.out hb10); have HO11 := Lib.hid (HO9.out.below hb10); clear ho10 hb10)
              | (go_at_call 43; (with_reducible refine (same18 ns ns _ _ _ (HO11.out.sl strC_len rfl) (HO10.out.sl strC_len rfl)).mono ?_); rintro e w12 ⟨rfl, hb12⟩; have HB12 := Lib.hid (below_then HB10.out hb12); clear hb12; rw [show (ns == ns) = true by simp])
              | (go_at_call 34; (with_reducible refine (HRI.out _ HB12.out).mono ?_); rintro e w13 ⟨rfl, hb13⟩; have HB13 := Lib.hid (below_then HB12.out hb13); clear hb13)
              | (go_at_call 34; (with_reducible refine (HRI.out _ HB9.out).mono ?_); rintro e w13 ⟨rfl, hb13⟩; have HB13 := Lib.hid (below_then HB9.out hb13); clear hb13))
            go_roundw
            case rel => exact ⟨k + 1, v4, y, _, rfl, by omega, by go_num, rfl, HPI.out.on HB13.out⟩
            case measure => simp [intOf]; omega
        | true =>
          rw [hpb] at HRP HKT
          rw [hpb, if_pos rfl] at hln
          rw [if_pos rfl] at HKT
          by_cases z0 : kv = 0
          · rw [if_pos z0] at hln
            subst z0 hln
            rw [if_neg (by decide)] at HLI
            clear hkr hpb
            as_aux_lemma =>
              go_wp2_with (first
                | (go_at_call 40; (with_reducible refine HLI.out.mono ?_); rintro e w6 ⟨v6, rfl, ho6, hb6⟩; obtain ⟨A6, c6, rfl, -⟩ := ho6.form0; have HO6 := Lib.hid ho6; have HB6 := Lib.hid hb6; clear ho6 hb6)
                | (go_at_call 26; refine (HRP.out _).mono ?_; rintro e w7 ⟨rfl, hb7⟩; have HB7 := Lib.hid (below_then HB6.out hb7); have HO7 := Lib.hid (HO6.out.below hb7); clear hb7)
                | (go_at_call 41; (with_reducible refine (HRK.out _ HB7.out).mono ?_); rintro e w8 ⟨rfl, rfl⟩)
                | (go_at_call 42; (with_reducible refine (HKT.out _ HB7.out).mono ?_); rintro e w9 ⟨rfl, hb9⟩; have HB9 := Lib.hid (below_then HB7.out hb9); have HO9 := Lib.hid (HO7.out.below hb9); clear hb9)
                | (go_at_call 44; (with_reducible refine (HRN.out _ HB9.out).mono ?_); rintro e w10 ⟨v10, rfl, ho10, hb10⟩; have HO10 := Lib.hid ho10; have HB10 := Lib.hid (below_then HB9.out hb10); have HO11 := Lib.hid (HO9.out.below hb10); clear ho10 hb10)
                | (go_at_call 43; (with_reducible refine (same18 ns ns _ _ _ (HO11.out.sl strC_len rfl) (HO10.out.sl strC_len rfl)).mono ?_); rintro e w12 ⟨rfl, hb12⟩; have HB12 := Lib.hid (below_then HB10.out hb12); clear hb12; rw [show (ns == ns) = true by simp])
                | (go_at_call 34; (with_reducible refine (HRI.out _ HB12.out).mono ?_); rintro e w13 ⟨rfl, hb13⟩; have HB13 := Lib.hid (below_then HB12.out hb13); clear hb13)
                | (go_at_call 34; (with_reducible refine (HRI.out _ HB9.out).mono ?_); rintro e w13 ⟨rfl, hb13⟩; have HB13 := Lib.hid (below_then HB9.out hb13); clear hb13))
              go_roundw
              case rel => exact ⟨k + 1, v4, y, _, rfl, by omega, by go_num, rfl, HPI.out.on HB13.out⟩
              case measure => simp [intOf]; omega
          · rw [if_neg z0] at hln
            have hk1 : 1 ≤ kv := by
              rcases hkr with z | z | z
              · exact absurd z z0
              · exact z.1
              · rw [z] at hpb; cases hpb
            have z3 := yes (show (0 : Int) < kv by omega)
            by_cases z1 : kv = 1
            · rw [if_pos z1] at hln
              subst z1 hln
              rw [if_pos rfl] at HLI
              clear hkr hpb hk1 z0 z3
              as_aux_lemma =>
                go_wp2_with (first
                  | (go_at_call 40; (with_reducible refine HLI.out.mono ?_); rintro e w6 ⟨v6, rfl, ho6, hb6⟩; obtain ⟨A6, c6, rfl, -⟩ := ho6.form0; have HO6 := Lib.hid ho6; have HB6 := Lib.hid hb6; clear ho6 hb6)
                  | (go_at_call 26; refine (HRP.out _).mono ?_; rintro e w7 ⟨rfl, hb7⟩; have HB7 := Lib.hid (below_then HB6.out hb7); have HO7 := Lib.hid (HO6.out.below hb7); clear hb7)
                  | (go_at_call 41; (with_reducible refine (HRK.out _ HB7.out).mono ?_); rintro e w8 ⟨rfl, rfl⟩)
                  | (go_at_call 42; (with_reducible refine (HKT.out _ HB7.out).mono ?_); rintro e w9 ⟨rfl, hb9⟩; have HB9 := Lib.hid (below_then HB7.out hb9); have HO9 := Lib.hid (HO7.out.below hb9); clear hb9)
                  | (go_at_call 44; (with_reducible refine (HRN.out _ HB9.out).mono ?_); rintro e w10 ⟨v10, rfl, ho10, hb10⟩; have HO10 := Lib.hid ho10; have HB10 := Lib.hid (below_then HB9.out hb10); have HO11 := Lib.hid (HO9.out.below hb10); clear ho10 hb10)
                  | (go_at_call 43; (with_reducible refine (same18 ns ns _ _ _ (HO11.out.sl strC_len rfl) (HO10.out.sl strC_len rfl)).mono ?_); rintro e w12 ⟨rfl, hb12⟩; have HB12 := Lib.hid (below_then HB10.out hb12); clear hb12; rw [show (ns == ns) = true by simp])
                  | (go_at_call 34; (with_reducible refine (HRI.out _ HB12.out).mono ?_); rintro e w13 ⟨rfl, hb13⟩; have HB13 := Lib.hid (below_then HB12.out hb13); clear hb13)
                  | (go_at_call 34; (with_reducible refine (HRI.out _ HB9.out).mono ?_); rintro e w13 ⟨rfl, hb13⟩; have HB13 := Lib.hid (below_then HB9.out hb13); clear hb13))
                go_roundw
                case rel => exact ⟨k + 1, v4, y, _, rfl, by omega, by go_num, rfl, HPI.out.on HB13.out⟩
                case measure => simp [intOf]; omega
            · rw [if_neg z1] at hln
              subst hln
              rw [if_neg (by decide)] at HLI
              have z2 : (kv == 1) = false := by simpa using z1
              clear hkr hpb hk1 z0 z1
              as_aux_lemma =>
                go_wp2_with (first
                  | (go_at_call 40; (with_reducible refine HLI.out.mono ?_); rintro e w6 ⟨v6, rfl, ho6, hb6⟩; obtain ⟨A6, c6, rfl, -⟩ := ho6.form0; have HO6 := Lib.hid ho6; have HB6 := Lib.hid hb6; clear ho6 hb6)
                  | (go_at_call 26; refine (HRP.out _).mono ?_; rintro e w7 ⟨rfl, hb7⟩; have HB7 := Lib.hid (below_then HB6.out hb7); have HO7 := Lib.hid (HO6.out.below hb7); clear hb7)
                  | (go_at_call 41; (with_reducible refine (HRK.out _ HB7.out).mono ?_); rintro e w8 ⟨rfl, rfl⟩)
                  | (go_at_call 42; (with_reducible refine (HKT.out _ HB7.out).mono ?_); rintro e w9 ⟨rfl, hb9⟩; have HB9 := Lib.hid (below_then HB7.out hb9); have HO9 := Lib.hid (HO7.out.below hb9); clear hb9)
                  | (go_at_call 44; (with_reducible refine (HRN.out _ HB9.out).mono ?_); rintro e w10 ⟨v10, rfl, ho10, hb10⟩; have HO10 := Lib.hid ho10; have HB10 := Lib.hid (below_then HB9.out hb10); have HO11 := Lib.hid (HO9.out.below hb10); clear ho10 hb10)
                  | (go_at_call 43; (with_reducible refine (same18 ns ns _ _ _ (HO11.out.sl strC_len rfl) (HO10.out.sl strC_len rfl)).mono ?_); rintro e w12 ⟨rfl, hb12⟩; have HB12 := Lib.hid (below_then HB10.out hb12); clear hb12; rw [show (ns == ns) = true by simp])
                  | (go_at_call 34; (with_reducible refine (HRI.out _ HB12.out).mono ?_); rintro e w13 ⟨rfl, hb13⟩; have HB13 := Lib.hid (below_then HB12.out hb13); clear hb13)
                  | (go_at_call 34; (with_reducible refine (HRI.out _ HB9.out).mono ?_); rintro e w13 ⟨rfl, hb13⟩; have HB13 := Lib.hid (below_then HB9.out hb13); clear hb13))
                go_roundw
                case rel => exact ⟨k + 1, v4, y, _, rfl, by omega, by go_num, rfl, HPI.out.on HB13.out⟩
                case measure => simp [intOf]; omega
      · have t1 : (q.kind == 0) = false := by simpa using t0
        by_cases u0 : q.kind = 1
        · have u1 : (q.kind == 1) = true := by simpa using u0
          have HRM := Lib.hid (refRemove_any x u q.path W hs0 (by omega) (by omega) (fun f hf => by have := HXP.out f hf; omega))
          have HTM := Lib.hid fun W' (hW : Below W.heap.size W W') => remove_any W' w1.heap.size (w1.heap.size + 1) x nb mp q.path (HT.out.below hW) (HM.out.below (below_then HP0.out.b hW)) (by omega) (by omega)
          have hml := rmL_le x q.path
          have HML := Lib.hid fun f (hf : f ∈ rmL x q.path) => HXP.out f (rmL_mem hf)
          generalize hyy : rmL x q.path = y at *
          generalize rmN x q.path = n at *
          clear u0 t0 hs0
          go_upto_region 26 with (first
            | (go_at_call 38; (with_reducible refine HRM.out.mono ?_); rintro e w4 ⟨v4, rfl, ho4, hb4, hf4⟩; obtain ⟨e04, e14, e24⟩ := EC.out w4 (below_then HP0.out.b hb4); haveI : Old w4 b := ⟨World.block_lt_of_cell? _ _ e04⟩; have HO4 := Lib.hid ho4; have HB4 := Lib.hid hb4; have HF4 := Lib.hid hf4; clear ho4 hb4 hf4)
            | (go_at_call 39; (with_reducible refine (HTM.out _ HB4.out).mono ?_); rintro e w5 hm5; have HPI := Lib.hid (HP0.out.step hwz HT.out HNO.out HO4.out HB4.out HF4.out hm5 (by omega) HML.out); obtain rfl := hm5.e; clear hm5))
          clear HP0 HT HNO HRM HTM HO4 HB4 HF4 HML hml
          obtain ⟨nb5, mp5, ht5, -⟩ := HPI.out.t
          have hs5 := HPI.out.s
          have hyl := HPI.out.l
          have hyp := HPI.out.p
          have HLI := Lib.hid (list_any w5 w1.heap.size (w1.heap.size + 1) y nb5 mp5 q.path ht5 (HM.out.below HPI.out.b) (by omega) (by omega))
          have HKT := Lib.hid fun V (hW : Below w5.heap.size w5 V) => kind_any V w1.heap.size (w1.heap.size + 1) y nb5 mp5 q.path (ht5.below hW) (HM.out.below (below_then HPI.out.b hW)) (by omega)
          have HRP := Lib.hid fun V => refIsPath_any q.path V (by omega)
          have HRK := Lib.hid fun V (hW : Below w5.heap.size w5 V) => refKind_any y v4 q.path V (hs5.below hW) (by omega)
          have HRN := Lib.hid fun V (hW : Below w5.heap.size w5 V) => refNames_any y v4 q.path V (hs5.below hW) (by omega) (fun f hf => by have := hyp f hf; omega)
          have HRI := Lib.hid fun V (hW : Below w5.heap.size w5 V) => right_any V w1.heap.size (w1.heap.size + 1) y y nb5 mp5 v4 (ht5.below hW) (by omega) (fun f hf => by have := hyp f hf; omega) (hs5.below hW) (List.Perm.refl _)
          have hkr : kindL y q.path = 0 ∨ (1 ≤ kindL y q.path ∧ pathB q.path = true) ∨ pathB q.path = false := by
            cases hpb : pathB q.path with
            | false => exact .inr (.inr rfl)
            | true =>
              have := kd_kind ht5.ok hpb
              cases hk : kd y (nms q.path) with
              | none => rw [hk] at this; exact .inl this
              | some kk => rw [hk] at this; have h2 := kd_pos ht5.ok hk; simp at this; exact .inr (.inl ⟨by omega, rfl⟩)
          unfold ListP liL at HLI
          have hln : liN y q.path = if pathB q.path = true then (if kindL y q.path = 0 then 3 else if kindL y q.path = 1 then 0 else 11) else 10 := rfl
          generalize liN y q.path = ln at *
          generalize kindL y q.path = kv at *
          generalize namesR y q.path = ns at *
          clear hs5 ht5 hyp
          cases hpb : pathB q.path with
          | false =>
            rw [hpb] at HRP HKT
            rw [hpb, if_neg (by simp)] at hln
            subst hln
            simp only [Bool.false_eq_true, if_false] at HKT
            rw [if_neg (by decide)] at HLI
            clear hkr hpb
            as_aux_lemma =>
              go_wp2_with (first
                | (go_at_call 40; (with_reducible refine HLI.out.mono ?_); rintro e w6 ⟨v6, rfl, ho6, hb6⟩; obtain ⟨A6, c6, rfl, -⟩ := ho6.form0; have HO6 := Lib.hid ho6; have HB6 := Lib.hid hb6; clear ho6 hb6)
                | (go_at_call 26; refine (HRP.out _).mono ?_; rintro e w7 ⟨rfl, hb7⟩; have HB7 := Lib.hid (below_then HB6.out hb7); have HO7 := Lib.hid (HO6.out.below hb7); clear hb7)
                | (go_at_call 41; (with_reducible refine (HRK.out _ HB7.out).mono ?_); rintro e w8 ⟨rfl, rfl⟩)
                | (go_at_call 42; (with_reducible refine (HKT.out _ HB7.out).mono ?_); rintro e w9 ⟨rfl, hb9⟩; have HB9 := Lib.hid (below_then HB7.out hb9); have HO9 := Lib.hid (HO7.out.below hb9); clear hb9)
                | (go_at_call 44; (with_reducible refine (HRN.out _ HB9.out).mono ?_); rintro e w10 ⟨v10, rfl, ho10, hb10⟩; have HO10 := Lib.hid ho10; have HB10 := Lib.hid (below_then HB9.out hb10); have HO11 := Lib.hid (HO9.out.below hb10); clear ho10 hb10)
                | (go_at_call 43; (with_reducible refine (same18 ns ns _ _ _ (HO11.out.sl strC_len rfl) (HO10.out.sl strC_len rfl)).mono ?_); rintro e w12 ⟨rfl, hb12⟩; have HB12 := Lib.hid (below_then HB10.out hb12); clear hb12; rw [show (ns == ns) = true by simp])
                | (go_at_call 34; (with_reducible refine (HRI.out _ HB12.out).mono ?_); rintro e w13 ⟨rfl, hb13⟩; have HB13 := Lib.hid (below_then HB12.out hb13); clear hb13)
                | (go_at_call 34; (with_reducible refine (HRI.out _ HB9.out).mono ?_); rintro e w13 ⟨rfl, hb13⟩; have HB13 := Lib.hid (below_then HB9.out hb13); clear hb13))
              go_roundw
              case rel => exact ⟨k + 1, v4, y, _, rfl, by omega, by go_num, rfl, HPI.out.on HB13.out⟩
              case measure => simp [intOf]; omega
          | true =>
            rw [hpb] at HRP HKT
            rw [hpb, if_pos rfl] at hln
            rw [if_pos rfl] at HKT
            by_cases z0 : kv = 0
            · rw [if_pos z0] at hln
              subst z0 hln
              rw [if_neg (by decide)] at HLI
              clear hkr hpb
              as_aux_lemma =>
                go_wp2_with (first
                  | (go_at_call 40; (with_reducible refine HLI.out.mono ?_); rintro e w6 ⟨v6, rfl, ho6, hb6⟩; obtain ⟨A6, c6, rfl, -⟩ := ho6.form0; have HO6 := Lib.hid ho6; have HB6 := Lib.hid hb6; clear ho6 hb6)
                  | (go_at_call 26; refine (HRP.out _).mono ?_; rintro e w7 ⟨rfl, hb7⟩; have HB7 := Lib.hid (below_then HB6.out hb7); have HO7 := Lib.hid (HO6.out.below hb7); clear hb7)
                  | (go_at_call 41; (with_reducible refine (HRK.out _ HB7.out).mono ?_); rintro e w8 ⟨rfl, rfl⟩)
                  | (go_at_call 42; (with_reducible refine (HKT.out _ HB7.out).mono ?_); rintro e w9 ⟨rfl, hb9⟩; have HB9 := Lib.hid (below_then HB7.out hb9); have HO9 := Lib.hid (HO7.out.below hb9); clear hb9)
                  | (go_at_call 44; (with_reducible refine (HRN.out _ HB9.out).mono ?_); rintro e w10 ⟨v10, rfl, ho10, hb10⟩; have HO10 := Lib.hid ho10; have HB10 := Lib.hid (below_then HB9.out hb10); have HO11 := Lib.hid (HO9.out.below hb10); clear ho10 hb10)
                  | (go_at_call 43; (with_reducible refine (same18 ns ns _ _ _ (HO11.out.sl strC_len rfl) (HO10.out.sl strC_len rfl)).mono ?_); rintro e w12 ⟨rfl, hb12⟩; have HB12 := Lib.hid (below_then HB10.out hb12); clear hb12; rw [show (ns == ns) = true by simp])
                  | (go_at_call 34; (with_reducible refine (HRI.out _ HB12.out).mono ?_); rintro e w13 ⟨rfl, hb13⟩; have HB13 := Lib.hid (below_then HB12.out hb13); clear hb13)
                  | (go_at_call 34; (with_reducible refine (HRI.out _ HB9.out).mono ?_); rintro e w13 ⟨rfl, hb13⟩; have HB13 := Lib.hid (below_then HB9.out hb13); clear hb13))
                go_roundw
                case rel => exact ⟨k + 1, v4, y, _, rfl, by omega, by go_num, rfl, HPI.out.on HB13.out⟩
                case measure => simp [intOf]; omega
            · rw [if_neg z0] at hln
              have hk1 : 1 ≤ kv := by
                rcases hkr with z | z | z
                · exact absurd z z0
                · exact z.1
                · rw [z] at hpb; cases hpb
              have z3 := yes (show (0 : Int) < kv by omega)
              by_cases z1 : kv = 1
              · rw [if_pos z1] at hln
                subst z1 hln
                rw [if_pos rfl] at HLI
                clear hkr hpb hk1 z0 z3
                as_aux_lemma =>
                  go_wp2_with (first
                    | (go_at_call 40; (with_reducible refine HLI.out.mono ?_); rintro e w6 ⟨v6, rfl, ho6, hb6⟩; obtain ⟨A6, c6, rfl, -⟩ := ho6.form0; have HO6 := Lib.hid ho6; have HB6 := Lib.hid hb6; clear ho6 hb6)
                    | (go_at_call 26; refine (HRP.out _).mono ?_; rintro e w7 ⟨rfl, hb7⟩; have HB7 := Lib.hid (below_then HB6.out hb7); have HO7 := Lib.hid (HO6.out.below hb7); clear hb7)
                    | (go_at_call 41; (with_reducible refine (HRK.out _ HB7.out).mono ?_); rintro e w8 ⟨rfl, rfl⟩)
                    | (go_at_call 42; (with_reducible refine (HKT.out _ HB7.out).mono ?_); rintro e w9 ⟨rfl, hb9⟩; have HB9 := Lib.hid (below_then HB7.out hb9); have HO9 := Lib.hid (HO7.out.below hb9); clear hb9)
                    | (go_at_call 44; (with_reducible refine (HRN.out _ HB9.out).mono ?_); rintro e w10 ⟨v10, rfl, ho10, hb10⟩; have HO10 := Lib.hid ho10; have HB10 := Lib.hid (below_then HB9.out hb10); have HO11 := Lib.hid (HO9.out.below hb10); clear ho10 hb10)
                    | (go_at_call 43; (with_reducible refine (same18 ns ns _ _ _ (HO11.out.sl strC_len rfl) (HO10.out.sl strC_len rfl)).mono ?_); rintro e w12 ⟨rfl, hb12⟩; have HB12 := Lib.hid (below_then HB10.out hb12); clear hb12; rw [show (ns == ns) = true by simp])
                    | (go_at_call 34; (with_reducible refine (HRI.out _ HB12.out).mono ?_); rintro e w13 ⟨rfl, hb13⟩; have HB13 := Lib.hid (below_then HB12.out hb13); clear hb13)
                    | (go_at_call 34; (with_reducible refine (HRI.out _ HB9.out).mono ?_); rintro e w13 ⟨rfl, hb13⟩; have HB13 := Lib.hid (below_then HB9.out hb13); clear hb13))
                  go_roundw
                  case rel => exact ⟨k + 1, v4, y, _, rfl, by omega, by go_num, rfl, HPI.out.on HB13.out⟩
                  case measure => simp [intOf]; omega
              · rw [if_neg z1] at hln
                subst hln
                rw [if_neg (by decide)] at HLI
                have z2 : (kv == 1) = false := by simpa using z1
                clear hkr hpb hk1 z0 z1
                as_aux_lemma =>
                  go_wp2_with (first
                    | (go_at_call 40; (with_reducible refine HLI.out.mono ?_); rintro e w6 ⟨v6, rfl, ho6, hb6⟩; obtain ⟨A6, c6, rfl, -⟩ := ho6.form0; have HO6 := Lib.hid ho6; have HB6 := Lib.hid hb6; clear ho6 hb6)
                    | (go_at_call 26; refine (HRP.out _).mono ?_; rintro e w7 ⟨rfl, hb7⟩; have HB7 := Lib.hid (below_then HB6.out hb7); have HO7 := Lib.hid (HO6.out.below hb7); clear hb7)
                    | (go_at_call 41; (with_reducible refine (HRK.out _ HB7.out).mono ?_); rintro e w8 ⟨rfl, rfl⟩)
                    | (go_at_call 42; (with_reducible refine (HKT.out _ HB7.out).mono ?_); rintro e w9 ⟨rfl, hb9⟩; have HB9 := Lib.hid (below_then HB7.out hb9); have HO9 := Lib.hid (HO7.out.below hb9); clear hb9)
                    | (go_at_call 44; (with_reducible refine (HRN.out _ HB9.out).mono ?_); rintro e w10 ⟨v10, rfl, ho10, hb10⟩; have HO10 := Lib.hid ho10; have HB10 := Lib.hid (below_then HB9.out hb10); have HO11 := Lib.hid (HO9.out.below hb10); clear ho10 hb10)
                    | (go_at_call 43; (with_reducible refine (same18 ns ns _ _ _ (HO11.out.sl strC_len rfl) (HO10.out.sl strC_len rfl)).mono ?_); rintro e w12 ⟨rfl, hb12⟩; have HB12 := Lib.hid (below_then HB10.out hb12); clear hb12; rw [show (ns == ns) = true by simp])
                    | (go_at_call 34; (with_reducible refine (HRI.out _ HB12.out).mono ?_); rintro e w13 ⟨rfl, hb13⟩; have HB13 := Lib.hid (below_then HB12.out hb13); clear hb13)
                    | (go_at_call 34; (with_reducible refine (HRI.out _ HB9.out).mono ?_); rintro e w13 ⟨rfl, hb13⟩; have HB13 := Lib.hid (below_then HB9.out hb13); clear hb13))
                  go_roundw
                  case rel => exact ⟨k + 1, v4, y, _, rfl, by omega, by go_num, rfl, HPI.out.on HB13.out⟩
                  case measure => simp [intOf]; omega
        · have u1 : (q.kind == 1) = false := by simpa using u0
          have HPI := Lib.hid HP0.out.more
          clear u0 t0 hs0
          go_upto_region 26 with fail
          clear HP0 HT HNO
          obtain ⟨nb5, mp5, ht5, -⟩ := HPI.out.t
          have hs5 := HPI.out.s
          have hyl := HPI.out.l
          have hyp := HPI.out.p
          have HLI := Lib.hid (list_any W w1.heap.size (w1.heap.size + 1) x nb5 mp5 q.path ht5 (HM.out.below HPI.out.b) (by omega) (by omega))
          have HKT := Lib.hid fun V (hW : Below W.heap.size W V) => kind_any V w1.heap.size (w1.heap.size + 1) x nb5 mp5 q.path (ht5.below hW) (HM.out.below (below_then HPI.out.b hW)) (by omega)
          have HRP := Lib.hid fun V => refIsPath_any q.path V (by omega)
          have HRK := Lib.hid fun V (hW : Below W.heap.size W V) => refKind_any x u q.path V (hs5.below hW) (by omega)
          have HRN := Lib.hid fun V (hW : Below W.heap.size W V) => refNames_any x u q.path V (hs5.below hW) (by omega) (fun f hf => by have := hyp f hf; omega)
          have HRI := Lib.hid fun V (hW : Below W.heap.size W V) => right_any V w1.heap.size (w1.heap.size + 1) x x nb5 mp5 u (ht5.below hW) (by omega) (fun f hf => by have := hyp f hf; omega) (hs5.below hW) (List.Perm.refl _)
          have hkr : kindL x q.path = 0 ∨ (1 ≤ kindL x q.path ∧ pathB q.path = true) ∨ pathB q.path = false := by
            cases hpb : pathB q.path with
            | false => exact .inr (.inr rfl)
            | true =>
              have := kd_kind ht5.ok hpb
              cases hk : kd x (nms q.path) with
              | none => rw [hk] at this; exact .inl this
              | some kk => rw [hk] at this; have h2 := kd_pos ht5.ok hk; simp at this; exact .inr (.inl ⟨by omega, rfl⟩)
          unfold ListP liL at HLI
          have hln : liN x q.path = if pathB q.path = true then (if kindL x q.path = 0 then 3 else if kindL x q.path = 1 then 0 else 11) else 10 := rfl
          generalize liN x q.path = ln at *
          generalize kindL x q.path = kv at *
          generalize namesR x q.path = ns at *
          clear hs5 ht5 hyp
          cases hpb : pathB q.path with
          | false =>
            rw [hpb] at HRP HKT
            rw [hpb, if_neg (by simp)] at hln
            subst hln
            simp only [Bool.false_eq_true, if_false] at HKT
            rw [if_neg (by decide)] at HLI
            clear hkr hpb
            as_aux_lemma =>
              go_wp2_with (first
                | (go_at_call 40; (with_reducible refine HLI.out.mono ?_); rintro e w6 ⟨v6, rfl, ho6, hb6⟩; obtain ⟨A6, c6, rfl, -⟩ := ho6.form0; have HO6 := Lib.hid ho6; have HB6 := Lib.hid hb6; clear ho6 hb6)
                | (go_at_call 26; refine (HRP.out _).mono ?_; rintro e w7 ⟨rfl, hb7⟩; have HB7 := Lib.hid (below_then HB6.out hb7); have HO7 := Lib.hid (HO6.out.below hb7); clear hb7)
                | (go_at_call 41; (with_reducible refine (HRK.out _ HB7.out).mono ?_); rintro e w8 ⟨rfl, rfl⟩)
                | (go_at_call 42; (with_reducible refine (HKT.out _ HB7.out).mono ?_); rintro e w9 ⟨rfl, hb9⟩; have HB9 := Lib.hid (below_then HB7.out hb9); have HO9 := Lib.hid (HO7.out.below hb9); clear hb9)
                | (go_at_call 44; (with_reducible refine (HRN.out _ HB9.out).mono ?_); rintro e w10 ⟨v10, rfl, ho10, hb10⟩; have HO10 := Lib.hid ho10; have HB10 := Lib.hid (below_then HB9.out hb10); have HO11 := Lib.hid (HO9.out.below hb10); clear ho10 hb10)
                | (go_at_call 43; (with_reducible refine (same18 ns ns _ _ _ (HO11.out.sl strC_len rfl) (HO10.out.sl strC_len rfl)).mono ?_); rintro e w12 ⟨rfl, hb12⟩; have HB12 := Lib.hid (below_then HB10.out hb12); clear hb12; rw [show (ns == ns) = true by simp])
                | (go_at_call 34; (with_reducible refine (HRI.out _ HB12.out).mono ?_); rintro e w13 ⟨rfl, hb13⟩; have HB13 := Lib.hid (below_then HB12.out hb13); clear hb13)
                | (go_at_call 34; (with_reducible refine (HRI.out _ HB9.out).mono ?_); rintro e w13 ⟨rfl, hb13⟩; have HB13 := Lib.hid (below_then HB9.out hb13); clear hb13))
              go_roundw
              case rel => exact ⟨k + 1, u, x, _, rfl, by omega, by go_num, rfl, HPI.out.on HB13.out⟩
              case measure => simp [intOf]; omega
          | true =>
            rw [hpb] at HRP HKT
            rw [hpb, if_pos rfl] at hln
            rw [if_pos rfl] at HKT
            by_cases z0 : kv = 0
            · rw [if_pos z0] at hln
              subst z0 hln
              rw [if_neg (by decide)] at HLI
              clear hkr hpb
              as_aux_lemma =>
                go_wp2_with (first
                  | (go_at_call 40; (with_reducible refine HLI.out.mono ?_); rintro e w6 ⟨v6, rfl, ho6, hb6⟩; obtain ⟨A6, c6, rfl, -⟩ := ho6.form0; have HO6 := Lib.hid ho6; have HB6 := Lib.hid hb6; clear ho6 hb6)
                  | (go_at_call 26; refine (HRP.out _).mono ?_; rintro e w7 ⟨rfl, hb7⟩; have HB7 := Lib.hid (below_then HB6.out hb7); have HO7 := Lib.hid (HO6.out.below hb7); clear hb7)
                  | (go_at_call 41; (with_reducible refine (HRK.out _ HB7.out).mono ?_); rintro e w8 ⟨rfl, rfl⟩)
                  | (go_at_call 42; (with_reducible refine (HKT.out _ HB7.out).mono ?_); rintro e w9 ⟨rfl, hb9⟩; have HB9 := Lib.hid (below_then HB7.out hb9); have HO9 := Lib.hid (HO7.out.below hb9); clear hb9)
                  | (go_at_call 44; (with_reducible refine (HRN.out _ HB9.out).mono ?_); rintro e w10 ⟨v10, rfl, ho10, hb10⟩; have HO10 := Lib.hid ho10; have HB10 := Lib.hid (below_then HB9.out hb10); have HO11 := Lib.hid (HO9.out.below hb10); clear ho10 hb10)
                  | (go_at_call 43; (with_reducible refine (same18 ns ns _ _ _ (HO11.out.sl strC_len rfl) (HO10.out.sl strC_len rfl)).mono ?_); rintro e w12 ⟨rfl, hb12⟩; have HB12 := Lib.hid (below_then HB10.out hb12); clear hb12; rw [show (ns == ns) = true by simp])
                  | (go_at_call 34; (with_reducible refine (HRI.out _ HB12.out).mono ?_); rintro e w13 ⟨rfl, hb13⟩; have HB13 := Lib.hid (below_then HB12.out hb13); clear hb13)
                  | (go_at_call 34; (with_reducible refine (HRI.out _ HB9.out).mono ?_); rintro e w13 ⟨rfl, hb13⟩; have HB13 := Lib.hid (below_then HB9.out hb13); clear hb13))
                go_roundw
                case rel => exact ⟨k + 1, u, x, _, rfl, by omega, by go_num, rfl, HPI.out.on HB13.out⟩
                case measure => simp [intOf]; omega
            · rw [if_neg z0] at hln
              have hk1 : 1 ≤ kv := by
                rcases hkr with z | z | z
                · exact absurd z z0
                · exact z.1
                · rw [z] at hpb; cases hpb
              have z3 := yes (show (0 : Int) < kv by omega)
              by_cases z1 : kv = 1
              · rw [if_pos z1] at hln
                subst z1 hln
                rw [if_pos rfl] at HLI
                clear hkr hpb hk1 z0 z3
                as_aux_lemma =>
                  go_wp2_with (first
                    | (go_at_call 40; (with_reducible refine HLI.out.mono ?_); rintro e w6 ⟨v6, rfl, ho6, hb6⟩; obtain ⟨A6, c6, rfl, -⟩ := ho6.form0; have HO6 := Lib.hid ho6; have HB6 := Lib.hid hb6; clear ho6 hb6)
                    | (go_at_call 26; refine (HRP.out _).mono ?_; rintro e w7 ⟨rfl, hb7⟩; have HB7 := Lib.hid (below_then HB6.out hb7); have HO7 := Lib.hid (HO6.out.below hb7); clear hb7)
                    | (go_at_call 41; (with_reducible refine (HRK.out _ HB7.out).mono ?_); rintro e w8 ⟨rfl, rfl⟩)
                    | (go_at_call 42; (with_reducible refine (HKT.out _ HB7.out).mono ?_); rintro e w9 ⟨rfl, hb9⟩; have HB9 := Lib.hid (below_then HB7.out hb9); have HO9 := Lib.hid (HO7.out.below hb9); clear hb9)
                    | (go_at_call 44; (with_reducible refine (HRN.out _ HB9.out).mono ?_); rintro e w10 ⟨v10, rfl, ho10, hb10⟩; have HO10 := Lib.hid ho10; have HB10 := Lib.hid (below_then HB9.out hb10); have HO11 := Lib.hid (HO9.out.below hb10); clear ho10 hb10)
                    | (go_at_call 43; (with_reducible refine (same18 ns ns _ _ _ (HO11.out.sl strC_len rfl) (HO10.out.sl strC_len rfl)).mono ?_); rintro e w12 ⟨rfl, hb12⟩; have HB12 := Lib.hid (below_then HB10.out hb12); clear hb12; rw [show (ns == ns) = true by simp])
                    | (go_at_call 34; (with_reducible refine (HRI.out _ HB12.out).mono ?_); rintro e w13 ⟨rfl, hb13⟩; have HB13 := Lib.hid (below_then HB12.out hb13); clear hb13)
                    | (go_at_call 34; (with_reducible refine (HRI.out _ HB9.out).mono ?_); rintro e w13 ⟨rfl, hb13⟩; have HB13 := Lib.hid (below_then HB9.out hb13); clear hb13))
                  go_roundw
                  case rel => exact ⟨k + 1, u, x, _, rfl, by omega, by go_num, rfl, HPI.out.on HB13.out⟩
                  case measure => simp [intOf]; omega
              · rw [if_neg z1] at hln
                subst hln
                rw [if_neg (by decide)] at HLI
                have z2 : (kv == 1) = false := by simpa using z1
                clear hkr hpb hk1 z0 z1
                as_aux_lemma =>
                  go_wp2_with (first
                    | (go_at_call 40; (with_reducible refine HLI.out.mono ?_); rintro e w6 ⟨v6, rfl, ho6, hb6⟩; obtain ⟨A6, c6, rfl, -⟩ := ho6.form0; have HO6 := Lib.hid ho6; have HB6 := Lib.hid hb6; clear ho6 hb6)
                    | (go_at_call 26; refine (HRP.out _).mono ?_; rintro e w7 ⟨rfl, hb7⟩; have HB7 := Lib.hid (below_then HB6.out hb7); have HO7 := Lib.hid (HO6.out.below hb7); clear hb7)
                    | (go_at_call 41; (with_reducible refine (HRK.out _ HB7.out).mono ?_); rintro e w8 ⟨rfl, rfl⟩)
                    | (go_at_call 42; (with_reducible refine (HKT.out _ HB7.out).mono ?_); rintro e w9 ⟨rfl, hb9⟩; have HB9 := Lib.hid (below_then HB7.out hb9); have HO9 := Lib.hid (HO7.out.below hb9); clear hb9)
                    | (go_at_call 44; (with_reducible refine (HRN.out _ HB9.out).mono ?_); rintro e w10 ⟨v10, rfl, ho10, hb10⟩; have HO10 := Lib.hid ho10; have HB10 := Lib.hid (below_then HB9.out hb10); have HO11 := Lib.hid (HO9.out.below hb10); clear ho10 hb10)
                    | (go_at_call 43; (with_reducible refine (same18 ns ns _ _ _ (HO11.out.sl strC_len rfl) (HO10.out.sl strC_len rfl)).mono ?_); rintro e w12 ⟨rfl, hb12⟩; have HB12 := Lib.hid (below_then HB10.out hb12); clear hb12; rw [show (ns == ns) = true by simp])
                    | (go_at_call 34; (with_reducible refine (HRI.out _ HB12.out).mono ?_); rintro e w13 ⟨rfl, hb13⟩; have HB13 := Lib.hid (below_then HB12.out hb13); clear hb13)
                    | (go_at_call 34; (with_reducible refine (HRI.out _ HB9.out).mono ?_); rintro e w13 ⟨rfl, hb13⟩; have HB13 := Lib.hid (below_then HB9.out hb13); clear hb13))
                  go_roundw
                  case rel => exact ⟨k + 1, u, x, _, rfl, by omega, by go_num, rfl, HPI.out.on HB13.out⟩
                  case measure => simp [intOf]; omega
    · have hk2 : k = l.length := by omega
      subst hk2
      have d0 := no hlt
      clear hlt
      go_wp2
      go_ret
      exact ⟨rfl, HP0.out.b⟩
end Go.Proofs.Ytkllgikmlgponaa.filesPlay
