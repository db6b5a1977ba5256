/-
  Layer 20: Same; specs, rows of names with specs, and of acts, as a law's arguments, opened. Conditions: each theorem's own.
-/
import Derived.Test.YtadaeecokkokjaaGreatDoorSpecL
import Derived.Test.YtadaeecokkokjaaGreatDoorOpen
import Derived.Lib.SmallJoins
import Derived.Test.YtadaeecokkokjaaGreatDoorRegA
set_option linter.unusedSimpArgs false
set_option linter.unusedVariables false
/-
  The walk of layer 20's reference, on: Same. Conditions: rows of at most 2^30. (Printed by gen_same20.py.)
-/
namespace Go.Proofs.YtadaeecokkokjaaGreatDoor.Spc
open Go.ChangeShapes Go.WideShapes Go.Deep Go.RowKit Mc Pa Quo Cls
set_option linter.unusedSimpArgs false
set_option linter.unusedVariables false
set_option maxRecDepth 100000
/-- Are two specs the same? -/
def sameB (x y : Sp) : Bool := x.a == y.a && x.w == y.w && x.g == y.g && x.x == y.x && x.p == y.p && x.s == y.s
theorem sameB_self (x : Sp) : sameB x x = true := by simp [sameB]
theorem sameB_len {x y : Sp} (h : ¬ x.a.length = y.a.length) : sameB x y = false := by
  unfold sameB
  rw [show (x.a == y.a) = false from by rw [beq_eq_false_iff_ne]; exact fun e => h (by rw [e])]
  rfl
theorem sameB_len2 {x y : Sp} (h : ¬ x.w.length = y.w.length) : sameB x y = false := by
  unfold sameB
  rw [show (x.w == y.w) = false from by rw [beq_eq_false_iff_ne]; exact fun e => h (by rw [e])]
  simp
theorem num_neq {a b : Nat} (h : ¬ a = b) : ((a : Int) != (b : Int)) = true := by
  rw [bne_iff_ne]; omega
theorem num_eqq {a b : Nat} (h : a = b) : ((a : Int) != (b : Int)) = false := by
  rw [h]; simp
theorem take_ne {α : Type} [BEq α] [LawfulBEq α] {xs ys : List α} {k : Nat} {a b : α} (ha : xs[k]? = some a) (hb : ys[k]? = some b) (h : a ≠ b) : (xs == ys) = false := by
  rw [beq_eq_false_iff_ne]
  rintro rfl
  rw [ha] at hb
  exact h (Option.some.inj hb)
theorem take_eq {α : Type} {xs ys : List α} {k : Nat} {a : α} (ha : xs[k]? = some a) (hb : ys[k]? = some a) (h : xs.take k = ys.take k) : xs.take (k + 1) = ys.take (k + 1) := by
  rw [List.take_add_one, List.take_add_one, ha, hb, h]
set_option maxHeartbeats 2000000 in
theorem same20_any (va vw ua uw : Value) (x y : Sp) (w : World) (ha : Sl w numC 1 va x.a) (hw : Sl w strC 1 vw x.w) (ha2 : Sl w numC 1 ua y.a) (hw2 : Sl w strC 1 uw y.w) (hla : x.a.length ≤ 1073741824) (hlw : x.w.length ≤ 1073741824) :
    Calls Tryz.prog 12 #[spV va vw x, spV ua uw y] w fun e w' => e = .returned (.bool (sameB x y)) ∧ Below w.heap.size w w' := by
  obtain ⟨Aa, ca, rfl, -, -, -, hA1⟩ := ha
  obtain ⟨Aw, cw, rfl, -, -, -, hA2⟩ := hw
  obtain ⟨Ba, da, rfl, -, -, -, hB1⟩ := ha2
  obtain ⟨Bw, dw, rfl, -, -, -, hB2⟩ := hw2
  have HA1 := Lib.hid hA1
  have HA2 := Lib.hid hA2
  have HB1 := Lib.hid hB1
  have HB2 := Lib.hid hB2
  have HQ := Lib.hid (show sameB x y = (x.a == y.a && x.w == y.w && x.g == y.g && x.x == y.x && x.p == y.p && x.s == y.s) from rfl)
  clear hA1 hA2 hB1 hB2
  by_cases h0 : x.a.length = y.a.length
  case neg =>
    have n0 := num_neq h0
    have HN := Lib.hid (sameB_len h0)
    clear h0
    go_enter Tryz.func12, Tryz.ntmps12
    go_wp2
    go_ret
    exact ⟨by rw [HN.out]; rfl, by (repeat (first | exact Below.refl _ _ | assumption | with_reducible refine below_alloc ?_ _ | with_reducible refine below_grow ?_ _ | with_reducible refine below_drewN ?_ _ | with_reducible refine below_drew ?_ | with_reducible refine below_setCell ?_ (by first | (dsimp only; omega) | (simp; done) | (simp; omega)) _))⟩
  have n0 := num_eqq h0
  have e0 := Lib.hid h0
  clear h0
  by_cases h1 : x.w.length = y.w.length
  case neg =>
    have n1 := num_neq h1
    have HN := Lib.hid (sameB_len2 h1)
    clear h1
    go_enter Tryz.func12, Tryz.ntmps12
    go_wp2
    go_ret
    exact ⟨by rw [HN.out]; rfl, by (repeat (first | exact Below.refl _ _ | assumption | with_reducible refine below_alloc ?_ _ | with_reducible refine below_grow ?_ _ | with_reducible refine below_drewN ?_ _ | with_reducible refine below_drew ?_ | with_reducible refine below_setCell ?_ (by first | (dsimp only; omega) | (simp; done) | (simp; omega)) _))⟩
  have n1 := num_eqq h1
  have e1 := Lib.hid h1
  clear h1
  cases h2 : (x.g == y.g)
  case false =>
    have n2 : (x.g != y.g) = true := by rw [bne, h2]; rfl
    rw [h2] at HQ
    go_enter Tryz.func12, Tryz.ntmps12
    go_wp2
    go_ret
    exact ⟨by rw [HQ.out]; simp, by (repeat (first | exact Below.refl _ _ | assumption | with_reducible refine below_alloc ?_ _ | with_reducible refine below_grow ?_ _ | with_reducible refine below_drewN ?_ _ | with_reducible refine below_drew ?_ | with_reducible refine below_setCell ?_ (by first | (dsimp only; omega) | (simp; done) | (simp; omega)) _))⟩
  have n2 : (x.g != y.g) = false := by rw [bne, h2]; rfl
  rw [h2] at HQ
  cases h3 : (x.x == y.x)
  case false =>
    have n3 : (x.x != y.x) = true := by rw [bne, h3]; rfl
    rw [h3] at HQ
    go_enter Tryz.func12, Tryz.ntmps12
    go_wp2
    go_ret
    exact ⟨by rw [HQ.out]; simp, by (repeat (first | exact Below.refl _ _ | assumption | with_reducible refine below_alloc ?_ _ | with_reducible refine below_grow ?_ _ | with_reducible refine below_drewN ?_ _ | with_reducible refine below_drew ?_ | with_reducible refine below_setCell ?_ (by first | (dsimp only; omega) | (simp; done) | (simp; omega)) _))⟩
  have n3 : (x.x != y.x) = false := by rw [bne, h3]; rfl
  rw [h3] at HQ
  cases h4 : (x.p == y.p)
  case false =>
    have n4 : (x.p != y.p) = true := by rw [bne, h4]; rfl
    rw [h4] at HQ
    go_enter Tryz.func12, Tryz.ntmps12
    go_wp2
    go_ret
    exact ⟨by rw [HQ.out]; simp, by (repeat (first | exact Below.refl _ _ | assumption | with_reducible refine below_alloc ?_ _ | with_reducible refine below_grow ?_ _ | with_reducible refine below_drewN ?_ _ | with_reducible refine below_drew ?_ | with_reducible refine below_setCell ?_ (by first | (dsimp only; omega) | (simp; done) | (simp; omega)) _))⟩
  have n4 : (x.p != y.p) = false := by rw [bne, h4]; rfl
  rw [h4] at HQ
  cases h5 : (x.s == y.s)
  case false =>
    have n5 : (x.s != y.s) = true := by rw [bne, h5]; rfl
    rw [h5] at HQ
    go_enter Tryz.func12, Tryz.ntmps12
    go_wp2
    go_ret
    exact ⟨by rw [HQ.out]; simp, by (repeat (first | exact Below.refl _ _ | assumption | with_reducible refine below_alloc ?_ _ | with_reducible refine below_grow ?_ _ | with_reducible refine below_drewN ?_ _ | with_reducible refine below_drew ?_ | with_reducible refine below_setCell ?_ (by first | (dsimp only; omega) | (simp; done) | (simp; omega)) _))⟩
  have n5 : (x.s != y.s) = false := by rw [bne, h5]; rfl
  rw [h5] at HQ
  simp only [Bool.and_true] at HQ
  go_enter Tryz.func12, Tryz.ntmps12
  go_wp2
  have HX := Lib.hid ((BoxN.new w [.slice Aa x.a.length ca, .slice Aw x.w.length cw, .string (B x.g), .string (B x.x), .string (B x.p), .string (B x.s)] 25).below (below_alloc (Below.refl _ _) (.cells #[.slice Ba y.a.length da, .slice Bw y.w.length dw, .string (B y.g), .string (B y.x), .string (B y.p), .string (B y.s)] 25)))
  have HY := Lib.hid (box_at (w.alloc (.cells #[.slice Aa x.a.length ca, .slice Aw x.w.length cw, .string (B x.g), .string (B x.x), .string (B x.p), .string (B x.s)] 25)) [.slice Ba y.a.length da, .slice Bw y.w.length dw, .string (B y.g), .string (B y.x), .string (B y.p), .string (B y.s)] 25 (w.heap.size + 1) (by simp) (Below.refl _ _))
  have HBE := Lib.hid (below_alloc (below_alloc (Below.refl w.heap.size w) (.cells #[.slice Aa x.a.length ca, .slice Aw x.w.length cw, .string (B x.g), .string (B x.x), .string (B x.p), .string (B x.s)] 25)) (.cells #[.slice Ba y.a.length da, .slice Bw y.w.length dw, .string (B y.g), .string (B y.x), .string (B y.p), .string (B y.s)] 25))
  generalize hW : World.alloc (World.alloc w _) _ = W at *
  have HW := Lib.hid hW
  clear hW
  go_loopw [5] (fun v3 wr => ∃ k : Nat, k ≤ x.a.length ∧ v3 = .int .i64 k ∧ Hid (x.a.take k = y.a.take k) ∧ Hid (Below W.heap.size W wr)) (fun i _ => x.a.length - (intOf i).toNat)
  case atStart => exact ⟨0, by omega, rfl, Lib.hid rfl, (Lib.hid (Below.refl _ _))⟩
  case round =>
    obtain ⟨k, hk, rfl, HR, HBW⟩ := hrel
    have HX1 := Lib.hid (HX.out.below HBW.out)
    have HY1 := Lib.hid (HY.out.below HBW.out)
    obtain ⟨⟨c0, c1, c2, c3, c4, c5⟩, -⟩ := box6 HX1.out
    obtain ⟨⟨d0, d1, d2, d3, d4, d5⟩, -⟩ := box6 HY1.out
    haveI : Old wr w.heap.size := ⟨HX1.out.lt⟩
    haveI : Old wr (w.heap.size + 1) := ⟨HY1.out.lt⟩
    have HBZ := Lib.hid (below_then HBE.out HBW.out)
    have k0 : (0 : Int) ≤ (k : Int) := by omega
    by_cases hlt : k < x.a.length
    · have k1 : (k : Int) < (x.a.length : Int) := by omega
      have k2 : (k : Int) < (y.a.length : Int) := by have := e0.out; omega
      have k3 : k < y.a.length := by omega
      obtain ⟨b, off, rfl, hb, hcl⟩ := HA1.out (by omega)
      obtain ⟨b2, off2, rfl, hb2, hcl2⟩ := HB1.out (by omega)
      haveI : Old wr b := ⟨Nat.lt_of_lt_of_le hb HBZ.out.size⟩
      haveI : Old wr b2 := ⟨Nat.lt_of_lt_of_le hb2 HBZ.out.size⟩
      obtain ⟨t, ht⟩ := get_some hlt
      obtain ⟨u, hu⟩ := get_some k3
      have g1 : wr.cell? ⟨b, off + k, none⟩ = some (.int .i64 t) := by
        have := (HBZ.out.cell (p := ⟨b, off + k * 1 + 0, none⟩) hb).trans (hcl k _ ht 0 _ rfl)
        simpa using this
      have g2 : wr.cell? ⟨b2, off2 + k, none⟩ = some (.int .i64 u) := by
        have := (HBZ.out.cell (p := ⟨b2, off2 + k * 1 + 0, none⟩) hb2).trans (hcl2 k _ hu 0 _ rfl)
        simpa using this
      have HT := Lib.hid ht
      have HU := Lib.hid hu
      clear hcl hcl2 ht hu
      by_cases hq : t = u
      · subst hq
        have m0 := (show (t != t) = false by simp)
        have HE := Lib.hid (take_eq HT.out HU.out HR.out)
        go_wp2
        go_quiet (fail)
        go_wp2
        exact ⟨⟨k + 1, by omega, by go_num, HE, Lib.hid (by have := HBW.out; (repeat (first | exact Below.refl _ _ | assumption | with_reducible refine below_alloc ?_ _ | with_reducible refine below_grow ?_ _ | with_reducible refine below_drewN ?_ _ | with_reducible refine below_drew ?_ | with_reducible refine below_setCell ?_ (by first | (dsimp only; omega) | (simp; done) | (simp; omega)) _)))⟩, by simp [intOf]; omega⟩
      · have m0 : (t != u) = true := by simpa using hq
        have HE := Lib.hid (take_ne HT.out HU.out hq)
        clear hq
        go_wp2
        go_quiet (fail)
        go_wp2
        go_ret
        exact ⟨by rw [HQ.out, HE.out]; simp, by have := HBZ.out; (repeat (first | exact Below.refl _ _ | assumption | with_reducible refine below_alloc ?_ _ | with_reducible refine below_grow ?_ _ | with_reducible refine below_drewN ?_ _ | with_reducible refine below_drew ?_ | with_reducible refine below_setCell ?_ (by first | (dsimp only; omega) | (simp; done) | (simp; omega)) _))⟩
    · have hr := HR.out
      rw [List.take_of_length_le (by omega), List.take_of_length_le (by have := e0.out; omega)] at hr
      have HRA := Lib.hid hr
      have k1 : ¬ (k : Int) < (x.a.length : Int) := by omega
      clear hr hlt
      go_wp2
      clear c0 c1 c2 c3 c4 c5 d0 d1 d2 d3 d4 d5 HX1 HY1 k0 k1 HR
      go_loopw [6] (fun v3 wr => ∃ k : Nat, k ≤ x.w.length ∧ v3 = .int .i64 k ∧ Hid (x.w.take k = y.w.take k) ∧ Hid (Below W.heap.size W wr)) (fun i _ => x.w.length - (intOf i).toNat)
      case atStart => exact ⟨0, by omega, rfl, Lib.hid rfl, HBW⟩
      case round =>
        obtain ⟨k, hk, rfl, HR, HBW⟩ := hrel
        have HX1 := Lib.hid (HX.out.below HBW.out)
        have HY1 := Lib.hid (HY.out.below HBW.out)
        obtain ⟨⟨c0, c1, c2, c3, c4, c5⟩, -⟩ := box6 HX1.out
        obtain ⟨⟨d0, d1, d2, d3, d4, d5⟩, -⟩ := box6 HY1.out
        haveI : Old wr w.heap.size := ⟨HX1.out.lt⟩
        haveI : Old wr (w.heap.size + 1) := ⟨HY1.out.lt⟩
        have HBZ := Lib.hid (below_then HBE.out HBW.out)
        have k0 : (0 : Int) ≤ (k : Int) := by omega
        by_cases hlt : k < x.w.length
        · have k1 : (k : Int) < (x.w.length : Int) := by omega
          have k2 : (k : Int) < (y.w.length : Int) := by have := e1.out; omega
          have k3 : k < y.w.length := by omega
          obtain ⟨b, off, rfl, hb, hcl⟩ := HA2.out (by omega)
          obtain ⟨b2, off2, rfl, hb2, hcl2⟩ := HB2.out (by omega)
          haveI : Old wr b := ⟨Nat.lt_of_lt_of_le hb HBZ.out.size⟩
          haveI : Old wr b2 := ⟨Nat.lt_of_lt_of_le hb2 HBZ.out.size⟩
          obtain ⟨t, ht⟩ := get_some hlt
          obtain ⟨u, hu⟩ := get_some k3
          have g1 : wr.cell? ⟨b, off + k, none⟩ = some (.string (B t)) := by
            have := (HBZ.out.cell (p := ⟨b, off + k * 1 + 0, none⟩) hb).trans (hcl k _ ht 0 _ rfl)
            simpa using this
          have g2 : wr.cell? ⟨b2, off2 + k, none⟩ = some (.string (B u)) := by
            have := (HBZ.out.cell (p := ⟨b2, off2 + k * 1 + 0, none⟩) hb2).trans (hcl2 k _ hu 0 _ rfl)
            simpa using this
          have HT := Lib.hid ht
          have HU := Lib.hid hu
          clear hcl hcl2 ht hu
          by_cases hq : t = u
          · subst hq
            have m0 := (show (t != t) = false by simp)
            have HE := Lib.hid (take_eq HT.out HU.out HR.out)
            go_wp2
            go_quiet (fail)
            go_wp2
            exact ⟨⟨k + 1, by omega, by go_num, HE, Lib.hid (by have := HBW.out; (repeat (first | exact Below.refl _ _ | assumption | with_reducible refine below_alloc ?_ _ | with_reducible refine below_grow ?_ _ | with_reducible refine below_drewN ?_ _ | with_reducible refine below_drew ?_ | with_reducible refine below_setCell ?_ (by first | (dsimp only; omega) | (simp; done) | (simp; omega)) _)))⟩, by simp [intOf]; omega⟩
          · have m1 : (t == u) = false := by simpa using hq
            have HE := Lib.hid (take_ne HT.out HU.out hq)
            clear hq
            go_wp2
            go_quiet (fail)
            go_wp2
            go_ret
            exact ⟨by rw [HQ.out, HE.out]; simp, by have := HBZ.out; (repeat (first | exact Below.refl _ _ | assumption | with_reducible refine below_alloc ?_ _ | with_reducible refine below_grow ?_ _ | with_reducible refine below_drewN ?_ _ | with_reducible refine below_drew ?_ | with_reducible refine below_setCell ?_ (by first | (dsimp only; omega) | (simp; done) | (simp; omega)) _))⟩
        · have hr := HR.out
          rw [List.take_of_length_le (by omega), List.take_of_length_le (by have := e1.out; omega)] at hr
          have HRW := Lib.hid hr
          have k1 : ¬ (k : Int) < (x.w.length : Int) := by omega
          clear hr hlt
          go_wp2
          go_ret
          exact ⟨by rw [HQ.out, HRA.out, HRW.out]; simp, HBZ.out⟩
end Go.Proofs.YtadaeecokkokjaaGreatDoor.Spc
/-
  A spec as a law's argument, opened. Conditions: none (arguments as the row reads them).
-/
namespace Go.Proofs.YtadaeecokkokjaaGreatDoor.Spc
open Go.ChangeShapes Go.WideShapes Go.Deep Go.ChangeAt Go.RowKit Mc Pa
set_option linter.unusedSimpArgs false
set_option linter.unusedVariables false
set_option maxRecDepth 100000
section
variable {H : Type} {enc : TypeId × Value → H} {P : Program} {w : World}
theorem array6 {α : Type} {cs : Array α} (h : cs.size = 6) : ∃ c0 c1 c2 c3 c4 c5, cs = #[c0, c1, c2, c3, c4, c5] := by
  obtain ⟨l⟩ := cs
  match l, h with
  | [c0, c1, c2, c3, c4, c5], _ => exact ⟨c0, c1, c2, c3, c4, c5, rfl⟩
/-- A slice in a field, opened: every element is decoded. -/
theorem open_slf {α : Type} (en : α → List Value) (Ok : α → Prop) {t e : TypeId} {sz fuel : Nat} {v : Value} {y : DataW H × List MemPlace} (ht : P.underlying t = some (.slice e)) (hC : P.cellsOf e = sz) (hsz : 0 < sz)
    (dec : ∀ {fuel cs d}, DataW.trod enc P w 0 (fun _ => true) true fuel e cs = some d → ∃ x, cs = en x ∧ Ok x)
    (hf : DataW.trod enc P w 0 (fun _ => true) true fuel t [v] = some y) : ∃ xs, Sl w en sz v xs ∧ (∀ x ∈ xs, Ok x) ∧ xs.length ≤ 9223372036854775807 := by
  rcases open_slice ht hf with ⟨h0, _⟩ | ⟨a, len', cap', m, n, D, Pl, h0, _, hl, hm, hmm, _, hi⟩
  · simp at h0
    subst h0
    exact ⟨[], Sl.nil w en sz, by simp, by simp⟩
  · simp at h0
    subst h0
    have hml : len' ≤ m := by rw [hmm]; simp; omega
    obtain ⟨xs, hxl, hx⟩ := list_of (R := fun i x => Ok x ∧ ∀ j u, (en x)[j]? = some u → w.cell? ((a.add (i * sz)).add j) = some u) len' (fun i hil => by
      obtain ⟨cs', hc, htr⟩ := hi i (by omega)
      rw [hC] at hc
      obtain ⟨_, hcl, hat⟩ := World.cells?_some hc
      obtain ⟨x, rfl, hok⟩ := dec htr
      refine ⟨x, hok, fun j u hj => ?_⟩
      have hjl : j < (en x).length := (List.getElem?_eq_some_iff.1 hj).1
      rw [hat j (by omega), hj])
    refine ⟨xs, ?_, fun x hxm => ?_, by unfold maxLen at hm; omega⟩
    · refine ⟨some a, cap', by rw [hxl], by omega, by unfold maxLen at hm; omega, (fun h => by cases h), fun h0 => ?_⟩
      obtain ⟨cs0, hc0, htr0⟩ := hi 0 (by omega)
      rw [hC] at hc0
      obtain ⟨_, hcl0, hat0⟩ := World.cells?_some hc0
      obtain ⟨b, off, spot⟩ := a
      have hcell0 := hat0 0 hsz
      have h00 : cs0[0]? = some (cs0[0]'(by omega)) := List.getElem?_eq_getElem (by omega)
      rw [h00] at hcell0
      have hspot : spot = none := by simpa [Addr.add] using World.cell?_spot hcell0
      subst hspot
      have hlt := World.block_lt_of_cell? w _ hcell0
      rw [add_plain, add_plain] at hlt
      refine ⟨b, off, rfl, hlt, fun k x hk j u hj => ?_⟩
      have := (hx k x hk).2 j u hj
      rwa [add_add, add_plain, ← Nat.add_assoc] at this
    · obtain ⟨k, hk⟩ := List.mem_iff_getElem?.1 hxm
      exact (hx k x hk).1
theorem open_agg6 {r : Reach} {b0 : Nat} {t : TypeId} {f0 f1 f2 f3 f4 f5 : Field} {v : Value} {d : DataW H} {p : List MemPlace} (hs : P.underlying t = some (.struct #[f0, f1, f2, f3, f4, f5])) (hone : oneCellFields P #[f0, f1, f2, f3, f4, f5] = true) (hC : P.cellsOf t = 6)
    (hv : Value.okWide P w r b0 t v) (h : DataW.Trod enc P w 0 (fun _ => true) true t v d p) :
    ∃ (v0 v1 v2 v3 v4 v5 : Value) (y0 y1 y2 y3 y4 y5 : DataW H × List MemPlace) (n : Nat), v = .agg #[v0, v1, v2, v3, v4, v5] ∧
      DataW.trod enc P w 0 (fun _ => true) true n f0.type [v0] = some y0 ∧ DataW.trod enc P w 0 (fun _ => true) true n f1.type [v1] = some y1 ∧ DataW.trod enc P w 0 (fun _ => true) true n f2.type [v2] = some y2 ∧ DataW.trod enc P w 0 (fun _ => true) true n f3.type [v3] = some y3 ∧ DataW.trod enc P w 0 (fun _ => true) true n f4.type [v4] = some y4 ∧ DataW.trod enc P w 0 (fun _ => true) true n f5.type [v5] = some y5 := by
  obtain ⟨cs, rfl, hsz⟩ := okWide_struct hs hv
  obtain ⟨c0, c1, c2, c3, c4, c5, rfl⟩ := array6 (hsz.trans hC)
  obtain ⟨fuel, hf⟩ := h
  obtain ⟨xs, n, _, hx, _, hlen, hg⟩ := DataW.trod_struct hs hf
  obtain ⟨o0, k0⟩ := hone_of hone 0 f0 rfl
  obtain ⟨o1, k1⟩ := hone_of hone 1 f1 rfl
  obtain ⟨o2, k2⟩ := hone_of hone 2 f2 rfl
  obtain ⟨o3, k3⟩ := hone_of hone 3 f3 rfl
  obtain ⟨o4, k4⟩ := hone_of hone 4 f4 rfl
  obtain ⟨o5, k5⟩ := hone_of hone 5 f5 rfl
  match xs, hlen with
  | [y0, y1, y2, y3, y4, y5], _ =>
    exact ⟨c0, c1, c2, c3, c4, c5, y0, y1, y2, y3, y4, y5, n, rfl, by simpa [Value.cells, o0, k0] using hg 0 f0 rfl, by simpa [Value.cells, o1, k1] using hg 1 f1 rfl, by simpa [Value.cells, o2, k2] using hg 2 f2 rfl, by simpa [Value.cells, o3, k3] using hg 3 f3 rfl, by simpa [Value.cells, o4, k4] using hg 4 f4 rfl, by simpa [Value.cells, o5, k5] using hg 5 f5 rfl⟩
end
theorem sstr_cells : Tryz.prog.cellsOf 9 = 1 := by kernel_rfl
theorem sint_cells : Tryz.prog.cellsOf 3 = 1 := by kernel_rfl
theorem spec_cells : Tryz.prog.cellsOf 25 = 6 := by kernel_rfl
theorem sstr_dec {H : Type} {enc : TypeId × Value → H} {w : World} {fuel : Nat} {cs : List Value} {d : DataW H × List MemPlace}
    (h : DataW.trod enc Tryz.prog w 0 (fun _ => true) true fuel 9 cs = some d) : ∃ x : List UInt8, cs = strC x ∧ x.length ≤ 9223372036854775807 := by
  obtain ⟨s1, e1, _, w1⟩ := DataW.trod_string Tryz.underlying9 h
  obtain ⟨a, rfl⟩ := B_all s1
  rw [B_size] at w1
  exact ⟨a, e1, w1⟩
theorem sint_dec {H : Type} {enc : TypeId × Value → H} {w : World} {fuel : Nat} {cs : List Value} {d : DataW H × List MemPlace}
    (h : DataW.trod enc Tryz.prog w 0 (fun _ => true) true fuel 3 cs = some d) : ∃ x : Int, cs = numC x ∧ True := by
  obtain ⟨n, e0, _, _⟩ := DataW.trod_int Tryz.underlying3 h
  exact ⟨n, e0, trivial⟩
/-- A spec comes in. -/
theorem open_spec {H : Type} {enc : TypeId × Value → H} {w : World} {base : Nat} {d : DataW H} {p : List MemPlace} {v : Value}
    (h : DataW.Trod enc Tryz.prog w 0 (fun _ => true) true 25 v d p) (k : Value.okWide Tryz.prog w .any base 25 v) :
    ∃ (va vw : Value) (x : Sp), v = spV va vw x ∧ Sl w numC 1 va x.a ∧ Sl w strC 1 vw x.w ∧ x.a.length ≤ 9223372036854775807 ∧ x.w.length ≤ 9223372036854775807 := by
  obtain ⟨v0, v1, v2, v3, v4, v5, y0, y1, y2, y3, y4, y5, n, rfl, h0, h1, h2, h3, h4, h5⟩ := open_agg6 Tryz.underlying25 (by kernel_rfl) spec_cells k h
  obtain ⟨xa, ha, _, la⟩ := open_slf numC (fun _ => True) Tryz.underlying22 sint_cells (by omega) sint_dec h0
  obtain ⟨xw, hw, _, lw⟩ := open_slf strC (fun x => x.length ≤ 9223372036854775807) Tryz.underlying23 sstr_cells (by omega) sstr_dec h1
  obtain ⟨g, e2, _⟩ := sstr_dec h2
  obtain ⟨x, e3, _⟩ := sstr_dec h3
  obtain ⟨p4, e4, _⟩ := sstr_dec h4
  obtain ⟨s5, e5, _⟩ := sstr_dec h5
  simp [strC] at e2 e3 e4 e5
  subst e2 e3 e4 e5
  exact ⟨v0, v1, ⟨xa, xw, g, x, p4, s5⟩, rfl, ha, hw, la, lw⟩
end Go.Proofs.YtadaeecokkokjaaGreatDoor.Spc
/-
  Rows of names with specs, and of acts, as a law's arguments, opened. Conditions: none (arguments as the row reads them).
-/
namespace Go.Proofs.YtadaeecokkokjaaGreatDoor.Spc
open Go.ChangeShapes Go.WideShapes Go.Deep Go.ChangeAt Go.RowKit Mc Pa
set_option linter.unusedSimpArgs false
set_option linter.unusedVariables false
set_option maxRecDepth 100000
section
variable {H : Type} {enc : TypeId × Value → H} {w : World}
end
end Go.Proofs.YtadaeecokkokjaaGreatDoor.Spc
