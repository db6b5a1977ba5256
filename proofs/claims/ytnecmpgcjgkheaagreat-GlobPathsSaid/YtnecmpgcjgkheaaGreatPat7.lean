/-
  The walks of layer 16 (pattern): the member of a set, by the reference. Conditions: texts of at most 2^30 bytes.
-/
import Derived.Test.YtnecmpgcjgkheaaGreatPat6
set_option linter.unusedSimpArgs false
set_option linter.unusedVariables false
namespace Go.Proofs.YtnecmpgcjgkheaaGreat.Pat
open Go.ChangeShapes Go.WideShapes Go.Deep Go.RowKit
set_option maxRecDepth 100000
theorem memAt_cls {p : List UInt8} {n : Nat} {nm : List UInt8} (h : clsAt p n = some nm) : memAt p n = some (inCls nm, n + nm.length + 4) := by unfold memAt; rw [h]
theorem memAt_end1 {p : List UInt8} {n : Nat} (h : clsAt p n = none) (h1 : p.length ≤ esc p n) : memAt p n = none := by
  unfold memAt; rw [h]; dsimp only; rw [List.getElem?_eq_none h1]
theorem memAt_one {p : List UInt8} {n : Nat} {lo : UInt8} (h : clsAt p n = none) (h1 : p[esc p n]? = some lo) (h2 : dash p (esc p n + 1) = false) : memAt p n = some (fun b => b == lo, esc p n + 1) := by
  unfold memAt; rw [h]; dsimp only; rw [h1]; dsimp only; rw [h2]; rfl
theorem memAt_end2 {p : List UInt8} {n : Nat} {lo : UInt8} (h : clsAt p n = none) (h1 : p[esc p n]? = some lo) (h2 : dash p (esc p n + 1) = true) (h3 : p.length ≤ esc p (esc p n + 2)) : memAt p n = none := by
  unfold memAt; rw [h]; dsimp only; rw [h1]; dsimp only; rw [if_pos h2, List.getElem?_eq_none h3]
theorem memAt_two {p : List UInt8} {n : Nat} {lo hi : UInt8} (h : clsAt p n = none) (h1 : p[esc p n]? = some lo) (h2 : dash p (esc p n + 1) = true) (h3 : p[esc p (esc p n + 2)]? = some hi) : memAt p n = some (fun b => btw b lo.toNat hi.toNat, esc p (esc p n + 2) + 1) := by
  unfold memAt; rw [h]; dsimp only; rw [h1]; dsimp only; rw [if_pos h2, h3]
def bitI (x : Bool) : Int := if x = true then 1 else 0
theorem bit_any (x : Bool) (w : World) : Calls Tryz.prog 87 #[.bool x] w fun e w' => e = .returned (.int .i64 (bitI x)) ∧ w = w' := by
  cases x
  all_goals
    go_enter Tryz.func87, Tryz.ntmps87
    go_wp2
    go_ret
    exact ⟨rfl, rfl⟩
def memB (p : List UInt8) (n : Nat) (b : UInt8) : Int := match memAt p n with
  | none => 0
  | some x => bitI (x.1 b)
def memE (p : List UInt8) (n : Nat) : Int := match memAt p n with
  | none => -1
  | some x => x.2
theorem mem_some {p : List UInt8} {n e : Nat} {g : UInt8 → Bool} (b : UInt8) (h : memAt p n = some (g, e)) : memB p n b = bitI (g b) ∧ memE p n = e := by unfold memB memE; rw [h]; exact ⟨rfl, rfl⟩
theorem mem_none {p : List UInt8} {n : Nat} (b : UInt8) (h : memAt p n = none) : memB p n b = 0 ∧ memE p n = -1 := by unfold memB memE; rw [h]; exact ⟨rfl, rfl⟩
def MemPost (p : List UInt8) (n : Nat) (b : UInt8) (w : World) (e : Ending) (w' : World) : Prop := e = .returned (.tuple #[.int .i64 (memB p n b), .int .i64 (memE p n)]) ∧ Below w.heap.size w w'
theorem MemPost.some_ {p : List UInt8} {n e : Nat} {b : UInt8} {w w' : World} {g : UInt8 → Bool} {x y : Int} (h : memAt p n = some (g, e)) (hx : x = bitI (g b)) (hy : y = e) (hb : Below w.heap.size w w') : MemPost p n b w (.returned (.tuple #[.int .i64 x, .int .i64 y])) w' := by
  obtain ⟨h1, h2⟩ := mem_some b h
  exact ⟨by rw [h1, h2, hx, hy], hb⟩
theorem MemPost.none_ {p : List UInt8} {n : Nat} {b : UInt8} {w w' : World} (h : memAt p n = none) (hb : Below w.heap.size w w') : MemPost p n b w (.returned (.tuple #[.int .i64 0, .int .i64 (-1)])) w' := by
  obtain ⟨h1, h2⟩ := mem_none b h
  exact ⟨by rw [h1, h2], hb⟩
theorem bit_eq (x b : UInt8) : bitI ((x.toNat : Int) == (b.toNat : Int)) = bitI ((fun c => c == x) b) := by
  refine congrArg bitI ?_
  by_cases h : b = x
  · subst h; simp
  · rw [u8_ne (fun e => h e.symm)]; exact (beq_eq_false_iff_ne.2 h).symm
set_option maxHeartbeats 3200000 in
theorem member_ref (p : List UInt8) (n : Nat) (b : UInt8) (w : World) (hp : p.length ≤ 1073741824) (hn : n < p.length) :
    Calls Tryz.prog 72 #[.string (B p), .int .i64 n, .int .u8 b.toNat] w (MemPost p n b w) := by
  have HC := Lib.hid fun w => class_ref p n w hp (by omega)
  have HB := Lib.hid bit_any
  have i0 : (0 : Int) ≤ (n : Int) := by omega
  have i1 : (n : Int) < (p.length : Int) := by omega
  cases hc : clsAt p n with
  | some nm =>
    have hl := clsAt_end hc
    rw [(cls_some hc).1, (cls_some hc).2] at HC
    have HA := Lib.hid (memAt_cls hc)
    have HO := Lib.hid fun w => of_any nm b w
    have d0 : (0 : Int) < (nm.length : Int) + 4 := by omega
    clear hc
    go_enter Tryz.func72, Tryz.ntmps72
    go_wp2_with (first | (go_at_call 86; refine (HC.out _).mono ?_; rintro e w' ⟨rfl, hb⟩; obtain ⟨g, rfl⟩ := to_grow hb; clear hb) | (go_at_call 88; refine (HO.out _).mono ?_; rintro e w' ⟨rfl, rfl⟩) | (go_at_call 87; refine (HB.out _ _).mono ?_; rintro e w' ⟨rfl, rfl⟩))
    go_ret2
    exact MemPost.some_ HA.out rfl (by omega) (by (repeat (first | with_reducible exact Below.refl _ _ | with_reducible assumption | with_reducible refine below_alloc ?_ _ | with_reducible refine below_grow ?_ _ | with_reducible refine below_drewN ?_ _ | with_reducible refine below_drew ?_ | with_reducible refine below_setCell ?_ (by first | (dsimp only; omega) | (simp; done) | (simp; omega)) _)))
  | none =>
    rw [(cls_none hc).1, (cls_none hc).2] at HC
    have HN := Lib.hid hc
    clear hc
    go_enter Tryz.func72, Tryz.ntmps72
    go_upto_if 29 with ((go_at_call 86; refine (HC.out _).mono ?_; rintro e w' ⟨rfl, hb⟩; obtain ⟨g, rfl⟩ := to_grow hb; clear hb))
    go_cut [1] (fun s1 w' => s1 = .int .i64 (esc p n) ∧ Below w.heap.size w w')
    case first =>
      by_cases h92 : p[n] = 92
      · have e1 := is_b (n := 92) rfl h92
        have HE := Lib.hid (esc_yes hn h92)
        clear h92
        go_wp2
        go_meet
        exact ⟨by rw [HE.out]; go_num, by (repeat (first | with_reducible exact Below.refl _ _ | with_reducible assumption | with_reducible refine below_alloc ?_ _ | with_reducible refine below_grow ?_ _ | with_reducible refine below_drewN ?_ _ | with_reducible refine below_drew ?_ | with_reducible refine below_setCell ?_ (by first | (dsimp only; omega) | (simp; done) | (simp; omega)) _))⟩
      · have e1 := not_b (n := 92) rfl h92
        have HE := Lib.hid (esc_no hn h92)
        clear h92
        go_wp2
        go_meet
        exact ⟨by rw [HE.out], by (repeat (first | with_reducible exact Below.refl _ _ | with_reducible assumption | with_reducible refine below_alloc ?_ _ | with_reducible refine below_grow ?_ _ | with_reducible refine below_drewN ?_ _ | with_reducible refine below_drew ?_ | with_reducible refine below_setCell ?_ (by first | (dsimp only; omega) | (simp; done) | (simp; omega)) _))⟩
    case rest =>
    obtain ⟨rfl, hb1⟩ := hcut
    have HL := Lib.hid (esc_le p n)
    by_cases h1 : esc p n < p.length
    · have hlo := List.getElem?_eq_getElem h1
      have HLO := Lib.hid hlo
      have HM1 := Lib.hid fun h2 => memAt_one HN.out hlo h2
      have HM2 := Lib.hid fun h2 h3 => memAt_end2 HN.out hlo h2 h3
      have HM3 := Lib.hid fun hi h2 h3 => memAt_two (hi := hi) HN.out hlo h2 h3
      clear hlo
      generalize esc p n = m at *
      rcases dash_cases (p := p) (m := m + 1) with ⟨hd, c1⟩ | ⟨hd, h2, c1, c2⟩ | ⟨hd, h2, c1, c2, c3⟩ | ⟨hd, h2, c1, c2, c3⟩
      · have d1 := no (show ¬ (m : Int) + 1 + 1 < (p.length : Int) by omega)
        have HD := Lib.hid hd
        clear hd
        go_wp2_with (go_at_call 87; refine (HB.out _ _).mono ?_; rintro e w' ⟨rfl, rfl⟩)
        go_ret2
        exact MemPost.some_ (HM1.out HD.out) (bit_eq _ _) (by omega) hb1
      · have d1 : (m : Int) + 1 + 1 < (p.length : Int) := by omega
        have d2 := not_b (n := 45) rfl c2
        have HD := Lib.hid hd
        clear hd c2
        go_wp2_with (go_at_call 87; refine (HB.out _ _).mono ?_; rintro e w' ⟨rfl, rfl⟩)
        go_ret2
        exact MemPost.some_ (HM1.out HD.out) (bit_eq _ _) (by omega) hb1
      · have d1 : (m : Int) + 1 + 1 < (p.length : Int) := by omega
        have d2 := is_b (n := 45) rfl c2
        have d3 := is_nb (n := 93) rfl c3
        have HD := Lib.hid hd
        clear hd c2 c3
        go_wp2_with (go_at_call 87; refine (HB.out _ _).mono ?_; rintro e w' ⟨rfl, rfl⟩)
        go_ret2
        exact MemPost.some_ (HM1.out HD.out) (bit_eq _ _) (by omega) hb1
      · have d1 : (m : Int) + 1 + 1 < (p.length : Int) := by omega
        have d2 := is_b (n := 45) rfl c2
        have d3 := not_nb (n := 93) rfl c3
        have HD := Lib.hid hd
        clear hd c2 c3
        go_upto_if 64 with fail
        go_cut [1] (fun s1 w' => s1 = .int .i64 (esc p (m + 2)) ∧ Below w.heap.size w w')
        case first =>
          have hm2 : m + 1 + 1 < p.length := by omega
          by_cases h92 : p[m + 1 + 1] = 92
          · have e1 := is_b (n := 92) rfl h92
            have HE := Lib.hid (esc_yes hm2 h92)
            clear h92
            go_wp2
            go_meet
            exact ⟨by rw [HE.out]; go_num, hb1⟩
          · have e1 := not_b (n := 92) rfl h92
            have HE := Lib.hid (esc_no hm2 h92)
            clear h92
            go_wp2
            go_meet
            exact ⟨by rw [HE.out]; go_num, hb1⟩
        case rest =>
        obtain ⟨rfl, hb2⟩ := hcut
        have hle := esc_le p (m + 2)
        generalize esc p (m + 2) = q at *
        by_cases hq : q < p.length
        · have HQ := Lib.hid (HM3.out p[q] HD.out (List.getElem?_eq_getElem hq))
          have e1 := no (show ¬ p.length ≤ q by omega)
          have q0 : (0 : Int) ≤ (q : Int) := by omega
          have q1 : (q : Int) < (p.length : Int) := by omega
          by_cases hlo : p[m].toNat ≤ b.toNat
          · have HLB := Lib.hid hlo
            go_wp2_with (go_at_call 87; refine (HB.out _ _).mono ?_; rintro e w' ⟨rfl, rfl⟩)
            go_ret2
            refine MemPost.some_ HQ.out (congrArg bitI ?_) (by omega) hb2
            show _ = btw _ _ _
            rw [btw_mk (yes (by have := HLB.out; omega)) rfl, Bool.true_and]
            rw [decide_eq_decide]; omega
          · have e2 := no hlo
            have HLB := Lib.hid hlo
            clear hlo
            go_wp2_with (go_at_call 87; refine (HB.out _ _).mono ?_; rintro e w' ⟨rfl, rfl⟩)
            go_ret2
            refine MemPost.some_ HQ.out (congrArg bitI ?_) (by omega) hb2
            show _ = btw _ _ _
            rw [btw_mk (no (by have := HLB.out; omega)) rfl, Bool.false_and]
        · have HA := Lib.hid (HM2.out HD.out (by omega))
          have e1 : p.length ≤ q := by omega
          go_wp2
          go_ret2
          exact MemPost.none_ HA.out hb2
    · have HA := Lib.hid (memAt_end1 HN.out (by omega : p.length ≤ esc p n))
      generalize esc p n = m at *
      have d1 : p.length ≤ m := by omega
      go_wp2
      go_ret2
      exact MemPost.none_ HA.out hb1
end Go.Proofs.YtnecmpgcjgkheaaGreat.Pat
