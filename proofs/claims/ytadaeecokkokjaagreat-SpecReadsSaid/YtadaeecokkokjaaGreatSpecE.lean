/-
  Layer 20: Same; specs, rows of names with specs, and of acts, as a law's arguments, opened. Conditions: each theorem's own.
-/
import Derived.Test.YtadaeecokkokjaaGreatSpecL
import Derived.Test.YtadaeecokkokjaaGreatTabPlain
import Derived.Lib.SmallJoins
import Derived.Test.YtadaeecokkokjaaGreatRegA
set_option linter.unusedSimpArgs false
set_option linter.unusedVariables false
namespace Go.Proofs.YtadaeecokkokjaaGreat.Spc
open Go.ChangeShapes Go.WideShapes Go.Deep Go.RowKit Mc Pa Quo Cls
set_option maxRecDepth 100000
/-- Are two specs the same? -/
def sameB (x y : Sp) : Bool := x.a == y.a && x.w == y.w && x.g == y.g && x.x == y.x && x.p == y.p && x.s == y.s
theorem sameB_self (x : Sp) : sameB x x = true := by simp [sameB]
theorem sameB_len {x y : Sp} (h : ¬ x.a.length = y.a.length) : sameB x y = false := by
  unfold sameB
  rw [show (x.a == y.a) = false from by rw [beq_eq_false_iff_ne]; exact fun e => h (by rw [e])]
  rfl
theorem sameB_len2 {x y : Sp} (h : ¬ x.w.length = y.w.length) : sameB x y = false := by
  unfold sameB
  rw [show (x.w == y.w) = false from by rw [beq_eq_false_iff_ne]; exact fun e => h (by rw [e])]
  simp
theorem num_neq {a b : Nat} (h : ¬ a = b) : ((a : Int) != (b : Int)) = true := by
  rw [bne_iff_ne]; omega
theorem num_eqq {a b : Nat} (h : a = b) : ((a : Int) != (b : Int)) = false := by
  rw [h]; simp
theorem take_ne {α : Type} [BEq α] [LawfulBEq α] {xs ys : List α} {k : Nat} {a b : α} (ha : xs[k]? = some a) (hb : ys[k]? = some b) (h : a ≠ b) : (xs == ys) = false := by
  rw [beq_eq_false_iff_ne]
  rintro rfl
  rw [ha] at hb
  exact h (Option.some.inj hb)
theorem take_eq {α : Type} {xs ys : List α} {k : Nat} {a : α} (ha : xs[k]? = some a) (hb : ys[k]? = some a) (h : xs.take k = ys.take k) : xs.take (k + 1) = ys.take (k + 1) := by
  rw [List.take_add_one, List.take_add_one, ha, hb, h]
set_option maxHeartbeats 2000000 in
theorem same20_any (va vw ua uw : Value) (x y : Sp) (w : World) (ha : Sl w numC 1 va x.a) (hw : Sl w strC 1 vw x.w) (ha2 : Sl w numC 1 ua y.a) (hw2 : Sl w strC 1 uw y.w) (hla : x.a.length ≤ 1073741824) (hlw : x.w.length ≤ 1073741824) :
    Calls Tryz.prog 7 #[spV va vw x, spV ua uw y] w fun e w' => e = .returned (.bool (sameB x y)) ∧ Below w.heap.size w w' := by
  obtain ⟨Aa, ca, rfl, -, -, -, hA1⟩ := ha
  obtain ⟨Aw, cw, rfl, -, -, -, hA2⟩ := hw
  obtain ⟨Ba, da, rfl, -, -, -, hB1⟩ := ha2
  obtain ⟨Bw, dw, rfl, -, -, -, hB2⟩ := hw2
  have HA1 := Lib.hid hA1
  have HA2 := Lib.hid hA2
  have HB1 := Lib.hid hB1
  have HB2 := Lib.hid hB2
  have HQ := Lib.hid (show sameB x y = (x.a == y.a && x.w == y.w && x.g == y.g && x.x == y.x && x.p == y.p && x.s == y.s) from rfl)
  clear hA1 hA2 hB1 hB2
  by_cases h0 : x.a.length = y.a.length
  case neg =>
    have n0 := num_neq h0
    have HN := Lib.hid (sameB_len h0)
    clear h0
    go_enter Tryz.func7, Tryz.ntmps7
    go_wp2
    go_ret
    exact ⟨by rw [HN.out]; rfl, by (repeat (first | exact Below.refl _ _ | assumption | with_reducible refine below_alloc ?_ _ | with_reducible refine below_grow ?_ _ | with_reducible refine below_drewN ?_ _ | with_reducible refine below_drew ?_ | with_reducible refine below_setCell ?_ (by first | (dsimp only; omega) | (simp; done) | (simp; omega)) _))⟩
  have n0 := num_eqq h0
  have e0 := Lib.hid h0
  clear h0
  by_cases h1 : x.w.length = y.w.length
  case neg =>
    have n1 := num_neq h1
    have HN := Lib.hid (sameB_len2 h1)
    clear h1
    go_enter Tryz.func7, Tryz.ntmps7
    go_wp2
    go_ret
    exact ⟨by rw [HN.out]; rfl, by (repeat (first | exact Below.refl _ _ | assumption | with_reducible refine below_alloc ?_ _ | with_reducible refine below_grow ?_ _ | with_reducible refine below_drewN ?_ _ | with_reducible refine below_drew ?_ | with_reducible refine below_setCell ?_ (by first | (dsimp only; omega) | (simp; done) | (simp; omega)) _))⟩
  have n1 := num_eqq h1
  have e1 := Lib.hid h1
  clear h1
  cases h2 : (x.g == y.g)
  case false =>
    have n2 : (x.g != y.g) = true := by rw [bne, h2]; rfl
    rw [h2] at HQ
    go_enter Tryz.func7, Tryz.ntmps7
    go_wp2
    go_ret
    exact ⟨by rw [HQ.out]; simp, by (repeat (first | exact Below.refl _ _ | assumption | with_reducible refine below_alloc ?_ _ | with_reducible refine below_grow ?_ _ | with_reducible refine below_drewN ?_ _ | with_reducible refine below_drew ?_ | with_reducible refine below_setCell ?_ (by first | (dsimp only; omega) | (simp; done) | (simp; omega)) _))⟩
  have n2 : (x.g != y.g) = false := by rw [bne, h2]; rfl
  rw [h2] at HQ
  cases h3 : (x.x == y.x)
  case false =>
    have n3 : (x.x != y.x) = true := by rw [bne, h3]; rfl
    rw [h3] at HQ
    go_enter Tryz.func7, Tryz.ntmps7
    go_wp2
    go_ret
    exact ⟨by rw [HQ.out]; simp, by (repeat (first | exact Below.refl _ _ | assumption | with_reducible refine below_alloc ?_ _ | with_reducible refine below_grow ?_ _ | with_reducible refine below_drewN ?_ _ | with_reducible refine below_drew ?_ | with_reducible refine below_setCell ?_ (by first | (dsimp only; omega) | (simp; done) | (simp; omega)) _))⟩
  have n3 : (x.x != y.x) = false := by rw [bne, h3]; rfl
  rw [h3] at HQ
  cases h4 : (x.p == y.p)
  case false =>
    have n4 : (x.p != y.p) = true := by rw [bne, h4]; rfl
    rw [h4] at HQ
    go_enter Tryz.func7, Tryz.ntmps7
    go_wp2
    go_ret
    exact ⟨by rw [HQ.out]; simp, by (repeat (first | exact Below.refl _ _ | assumption | with_reducible refine below_alloc ?_ _ | with_reducible refine below_grow ?_ _ | with_reducible refine below_drewN ?_ _ | with_reducible refine below_drew ?_ | with_reducible refine below_setCell ?_ (by first | (dsimp only; omega) | (simp; done) | (simp; omega)) _))⟩
  have n4 : (x.p != y.p) = false := by rw [bne, h4]; rfl
  rw [h4] at HQ
  cases h5 : (x.s == y.s)
  case false =>
    have n5 : (x.s != y.s) = true := by rw [bne, h5]; rfl
    rw [h5] at HQ
    go_enter Tryz.func7, Tryz.ntmps7
    go_wp2
    go_ret
    exact ⟨by rw [HQ.out]; simp, by (repeat (first | exact Below.refl _ _ | assumption | with_reducible refine below_alloc ?_ _ | with_reducible refine below_grow ?_ _ | with_reducible refine below_drewN ?_ _ | with_reducible refine below_drew ?_ | with_reducible refine below_setCell ?_ (by first | (dsimp only; omega) | (simp; done) | (simp; omega)) _))⟩
  have n5 : (x.s != y.s) = false := by rw [bne, h5]; rfl
  rw [h5] at HQ
  simp only [Bool.and_true] at HQ
  go_enter Tryz.func7, Tryz.ntmps7
  go_wp2
  have HX := Lib.hid ((BoxN.new w [.slice Aa x.a.length ca, .slice Aw x.w.length cw, .string (B x.g), .string (B x.x), .string (B x.p), .string (B x.s)] 26).below (below_alloc (Below.refl _ _) (.cells #[.slice Ba y.a.length da, .slice Bw y.w.length dw, .string (B y.g), .string (B y.x), .string (B y.p), .string (B y.s)] 26)))
  have HY := Lib.hid (box_at (w.alloc (.cells #[.slice Aa x.a.length ca, .slice Aw x.w.length cw, .string (B x.g), .string (B x.x), .string (B x.p), .string (B x.s)] 26)) [.slice Ba y.a.length da, .slice Bw y.w.length dw, .string (B y.g), .string (B y.x), .string (B y.p), .string (B y.s)] 26 (w.heap.size + 1) (by simp) (Below.refl _ _))
  have HBE := Lib.hid (below_alloc (below_alloc (Below.refl w.heap.size w) (.cells #[.slice Aa x.a.length ca, .slice Aw x.w.length cw, .string (B x.g), .string (B x.x), .string (B x.p), .string (B x.s)] 26)) (.cells #[.slice Ba y.a.length da, .slice Bw y.w.length dw, .string (B y.g), .string (B y.x), .string (B y.p), .string (B y.s)] 26))
  generalize hW : World.alloc (World.alloc w _) _ = W at *
  have HW := Lib.hid hW
  clear hW
  go_loopw [5] (fun v3 wr => ∃ k : Nat, k ≤ x.a.length ∧ v3 = .int .i64 k ∧ Hid (x.a.take k = y.a.take k) ∧ Hid (Below W.heap.size W wr)) (fun i _ => x.a.length - (intOf i).toNat)
  case atStart => exact ⟨0, by omega, rfl, Lib.hid rfl, (Lib.hid (Below.refl _ _))⟩
  case round =>
    obtain ⟨k, hk, rfl, HR, HBW⟩ := hrel
    have HX1 := Lib.hid (HX.out.below HBW.out)
    have HY1 := Lib.hid (HY.out.below HBW.out)
    obtain ⟨⟨c0, c1, c2, c3, c4, c5⟩, -⟩ := box6 HX1.out
    obtain ⟨⟨d0, d1, d2, d3, d4, d5⟩, -⟩ := box6 HY1.out
    haveI : Old wr w.heap.size := ⟨HX1.out.lt⟩
    haveI : Old wr (w.heap.size + 1) := ⟨HY1.out.lt⟩
    have HBZ := Lib.hid (below_then HBE.out HBW.out)
    have k0 : (0 : Int) ≤ (k : Int) := by omega
    by_cases hlt : k < x.a.length
    · have k1 : (k : Int) < (x.a.length : Int) := by omega
      have k2 : (k : Int) < (y.a.length : Int) := by have := e0.out; omega
      have k3 : k < y.a.length := by omega
      obtain ⟨b, off, rfl, hb, hcl⟩ := HA1.out (by omega)
      obtain ⟨b2, off2, rfl, hb2, hcl2⟩ := HB1.out (by omega)
      haveI : Old wr b := ⟨Nat.lt_of_lt_of_le hb HBZ.out.size⟩
      haveI : Old wr b2 := ⟨Nat.lt_of_lt_of_le hb2 HBZ.out.size⟩
      obtain ⟨t, ht⟩ := get_some hlt
      obtain ⟨u, hu⟩ := get_some k3
      have g1 : wr.cell? ⟨b, off + k, none⟩ = some (.int .i64 t) := by
        have := (HBZ.out.cell (p := ⟨b, off + k * 1 + 0, none⟩) hb).trans (hcl k _ ht 0 _ rfl)
        simpa using this
      have g2 : wr.cell? ⟨b2, off2 + k, none⟩ = some (.int .i64 u) := by
        have := (HBZ.out.cell (p := ⟨b2, off2 + k * 1 + 0, none⟩) hb2).trans (hcl2 k _ hu 0 _ rfl)
        simpa using this
      have HT := Lib.hid ht
      have HU := Lib.hid hu
      clear hcl hcl2 ht hu
      by_cases hq : t = u
      · subst hq
        have m0 := (show (t != t) = false by simp)
        have HE := Lib.hid (take_eq HT.out HU.out HR.out)
        go_wp2
        go_quiet (fail)
        go_wp2
        exact ⟨⟨k + 1, by omega, by go_num, HE, Lib.hid (by have := HBW.out; (repeat (first | exact Below.refl _ _ | assumption | with_reducible refine below_alloc ?_ _ | with_reducible refine below_grow ?_ _ | with_reducible refine below_drewN ?_ _ | with_reducible refine below_drew ?_ | with_reducible refine below_setCell ?_ (by first | (dsimp only; omega) | (simp; done) | (simp; omega)) _)))⟩, by simp [intOf]; omega⟩
      · have m0 : (t != u) = true := by simpa using hq
        have HE := Lib.hid (take_ne HT.out HU.out hq)
        clear hq
        go_wp2
        go_quiet (fail)
        go_wp2
        go_ret
        exact ⟨by rw [HQ.out, HE.out]; simp, by have := HBZ.out; (repeat (first | exact Below.refl _ _ | assumption | with_reducible refine below_alloc ?_ _ | with_reducible refine below_grow ?_ _ | with_reducible refine below_drewN ?_ _ | with_reducible refine below_drew ?_ | with_reducible refine below_setCell ?_ (by first | (dsimp only; omega) | (simp; done) | (simp; omega)) _))⟩
    · have hr := HR.out
      rw [List.take_of_length_le (by omega), List.take_of_length_le (by have := e0.out; omega)] at hr
      have HRA := Lib.hid hr
      have k1 : ¬ (k : Int) < (x.a.length : Int) := by omega
      clear hr hlt
      go_wp2
      clear c0 c1 c2 c3 c4 c5 d0 d1 d2 d3 d4 d5 HX1 HY1 k0 k1 HR
      go_loopw [6] (fun v3 wr => ∃ k : Nat, k ≤ x.w.length ∧ v3 = .int .i64 k ∧ Hid (x.w.take k = y.w.take k) ∧ Hid (Below W.heap.size W wr)) (fun i _ => x.w.length - (intOf i).toNat)
      case atStart => exact ⟨0, by omega, rfl, Lib.hid rfl, HBW⟩
      case round =>
        obtain ⟨k, hk, rfl, HR, HBW⟩ := hrel
        have HX1 := Lib.hid (HX.out.below HBW.out)
        have HY1 := Lib.hid (HY.out.below HBW.out)
        obtain ⟨⟨c0, c1, c2, c3, c4, c5⟩, -⟩ := box6 HX1.out
        obtain ⟨⟨d0, d1, d2, d3, d4, d5⟩, -⟩ := box6 HY1.out
        haveI : Old wr w.heap.size := ⟨HX1.out.lt⟩
        haveI : Old wr (w.heap.size + 1) := ⟨HY1.out.lt⟩
        have HBZ := Lib.hid (below_then HBE.out HBW.out)
        have k0 : (0 : Int) ≤ (k : Int) := by omega
        by_cases hlt : k < x.w.length
        · have k1 : (k : Int) < (x.w.length : Int) := by omega
          have k2 : (k : Int) < (y.w.length : Int) := by have := e1.out; omega
          have k3 : k < y.w.length := by omega
          obtain ⟨b, off, rfl, hb, hcl⟩ := HA2.out (by omega)
          obtain ⟨b2, off2, rfl, hb2, hcl2⟩ := HB2.out (by omega)
          haveI : Old wr b := ⟨Nat.lt_of_lt_of_le hb HBZ.out.size⟩
          haveI : Old wr b2 := ⟨Nat.lt_of_lt_of_le hb2 HBZ.out.size⟩
          obtain ⟨t, ht⟩ := get_some hlt
          obtain ⟨u, hu⟩ := get_some k3
          have g1 : wr.cell? ⟨b, off + k, none⟩ = some (.string (B t)) := by
            have := (HBZ.out.cell (p := ⟨b, off + k * 1 + 0, none⟩) hb).trans (hcl k _ ht 0 _ rfl)
            simpa using this
          have g2 : wr.cell? ⟨b2, off2 + k, none⟩ = some (.string (B u)) := by
            have := (HBZ.out.cell (p := ⟨b2, off2 + k * 1 + 0, none⟩) hb2).trans (hcl2 k _ hu 0 _ rfl)
            simpa using this
          have HT := Lib.hid ht
          have HU := Lib.hid hu
          clear hcl hcl2 ht hu
          by_cases hq : t = u
          · subst hq
            have m0 := (show (t != t) = false by simp)
            have HE := Lib.hid (take_eq HT.out HU.out HR.out)
            go_wp2
            go_quiet (fail)
            go_wp2
            exact ⟨⟨k + 1, by omega, by go_num, HE, Lib.hid (by have := HBW.out; (repeat (first | exact Below.refl _ _ | assumption | with_reducible refine below_alloc ?_ _ | with_reducible refine below_grow ?_ _ | with_reducible refine below_drewN ?_ _ | with_reducible refine below_drew ?_ | with_reducible refine below_setCell ?_ (by first | (dsimp only; omega) | (simp; done) | (simp; omega)) _)))⟩, by simp [intOf]; omega⟩
          · have m1 : (t == u) = false := by simpa using hq
            have HE := Lib.hid (take_ne HT.out HU.out hq)
            clear hq
            go_wp2
            go_quiet (fail)
            go_wp2
            go_ret
            exact ⟨by rw [HQ.out, HE.out]; simp, by have := HBZ.out; (repeat (first | exact Below.refl _ _ | assumption | with_reducible refine below_alloc ?_ _ | with_reducible refine below_grow ?_ _ | with_reducible refine below_drewN ?_ _ | with_reducible refine below_drew ?_ | with_reducible refine below_setCell ?_ (by first | (dsimp only; omega) | (simp; done) | (simp; omega)) _))⟩
        · have hr := HR.out
          rw [List.take_of_length_le (by omega), List.take_of_length_le (by have := e1.out; omega)] at hr
          have HRW := Lib.hid hr
          have k1 : ¬ (k : Int) < (x.w.length : Int) := by omega
          clear hr hlt
          go_wp2
          go_ret
          exact ⟨by rw [HQ.out, HRA.out, HRW.out]; simp, HBZ.out⟩
end Go.Proofs.YtadaeecokkokjaaGreat.Spc
namespace Go.Proofs.YtadaeecokkokjaaGreat.Spc
open Go.ChangeShapes Go.WideShapes Go.Deep Go.ChangeAt Go.RowKit Mc Pa
set_option maxRecDepth 100000
section
variable {H : Type} {enc : TypeId × Value → H} {P : Program} {w : World}
end
end Go.Proofs.YtadaeecokkokjaaGreat.Spc
namespace Go.Proofs.YtadaeecokkokjaaGreat.Spc
open Go.ChangeShapes Go.WideShapes Go.Deep Go.ChangeAt Go.RowKit Mc Pa
set_option maxRecDepth 100000
section
variable {H : Type} {enc : TypeId × Value → H} {w : World}
end
end Go.Proofs.YtadaeecokkokjaaGreat.Spc
