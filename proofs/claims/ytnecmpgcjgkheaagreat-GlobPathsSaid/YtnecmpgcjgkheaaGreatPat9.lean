/-
  The walks of layer 16 (pattern): the set at a place, by the reference. Conditions: texts of at most 2^30 bytes. The loop stands twice, printed.
-/
import Derived.Test.YtnecmpgcjgkheaaGreatPat8
set_option linter.unusedSimpArgs false
set_option linter.unusedVariables false
namespace Go.Proofs.YtnecmpgcjgkheaaGreat.Pat
open Go.ChangeShapes Go.WideShapes Go.Deep Go.RowKit
set_option maxRecDepth 100000
def setB (p : List UInt8) (n : Nat) (b : UInt8) : Int := match brAt p n with
  | none => 0
  | some x => bitI (x.1 b)
def setE (p : List UInt8) (n : Nat) : Int := match brAt p n with
  | none => -1
  | some x => x.2
def SetP (p : List UInt8) (n : Nat) (b : UInt8) (w : World) (e : Ending) (w' : World) : Prop := e = .returned (.tuple #[.int .i64 (setB p n b), .int .i64 (setE p n)]) ∧ Below w.heap.size w w'
theorem SetP.some_ {p : List UInt8} {n e : Nat} {b : UInt8} {w w' : World} {g : UInt8 → Bool} {x y : Int} (h : brAt p n = some (g, e)) (hx : x = bitI (g b)) (hy : y = e) (hb : Below w.heap.size w w') : SetP p n b w (.returned (.tuple #[.int .i64 x, .int .i64 y])) w' := by
  have h1 : setB p n b = bitI (g b) := by unfold setB; rw [h]
  have h2 : setE p n = e := by unfold setE; rw [h]
  exact ⟨by rw [h1, h2, hx, hy], hb⟩
theorem SetP.none_ {p : List UInt8} {n : Nat} {b : UInt8} {w w' : World} (h : brAt p n = none) (hb : Below w.heap.size w w') : SetP p n b w (.returned (.tuple #[.int .i64 0, .int .i64 (-1)])) w' := by
  have h1 : setB p n b = 0 := by unfold setB; rw [h]
  have h2 : setE p n = -1 := by unfold setE; rw [h]
  exact ⟨by rw [h1, h2], hb⟩
theorem some_more {c : Nat} {f g : UInt8 → Bool} {b : UInt8} (h : 0 < c ↔ f b = true) (x : Nat) (hx : bitI (g b) = x) : 0 < c + x ↔ (fun b => f b || g b) b = true := by
  simp only [Bool.or_eq_true]
  rw [← h]
  unfold bitI at hx
  cases hg : g b with
  | true => rw [hg, if_pos rfl] at hx; simp; omega
  | false => rw [hg] at hx; simp at hx; simp; omega
theorem brAt_not {p : List UInt8} {n : Nat} {g : UInt8 → Bool} {e : Nat} (h : p[n + 1]? = some 33) (h2 : setR p (n + 2) (n + 2) (fun _ => false) = some (g, e)) : brAt p n = some (fun b => !g b, e) := by
  unfold brAt; rw [if_pos h, h2]; rfl
theorem brAt_not0 {p : List UInt8} {n : Nat} (h : p[n + 1]? = some 33) (h2 : setR p (n + 2) (n + 2) (fun _ => false) = none) : brAt p n = none := by
  unfold brAt; rw [if_pos h, h2]; rfl
theorem brAt_plain {p : List UInt8} {n : Nat} (h : ¬ p[n + 1]? = some 33) : brAt p n = setR p (n + 1) (n + 1) (fun _ => false) := by
  unfold brAt; rw [if_neg h]
set_option maxHeartbeats 6400000 in
theorem set_ref (p : List UInt8) (n : Nat) (b : UInt8) (w : World) (hp : p.length ≤ 1073741824) (hn : n < p.length) :
    Calls Tryz.prog 48 #[.string (B p), .int .i64 n, .int .u8 b.toNat] w (SetP p n b w) := by
  have i00 : (0 : Int) ≤ (n : Int) + 1 := by omega
  by_cases h33 : ∃ h : n + 1 < p.length, p[n + 1] = 33
  · obtain ⟨h1, h33⟩ := h33
    have hg : p[n + 1]? = some 33 := by rw [List.getElem?_eq_getElem h1, h33]
    have HBR := Lib.hid fun x (h : setR p (n + 2) (n + 2) (fun _ => false) = some x) => brAt_not (g := x.1) (e := x.2) hg h
    have HBN := Lib.hid fun h => brAt_not0 hg h
    have d1 : (n : Int) + 1 < (p.length : Int) := by omega
    have d2 := is_b (n := 33) rfl h33
    clear h33 hg
    obtain ⟨q, hq⟩ : ∃ q, q = n + 2 := ⟨_, rfl⟩
    rw [← hq] at HBR HBN
    have HQ : Hid ((q : Int) = (n : Int) + 1 + 1) := by show _ = _; omega
    have HQL : Hid (q ≤ p.length) := by show _ ≤ _; omega
    clear hq
    go_enter Tryz.func48, Tryz.ntmps48
    go_wp2
    go_loopw [1, 10] (fun i s w' => ∃ (k c : Nat) (f : UInt8 → Bool), q ≤ k ∧ k ≤ p.length ∧ i = .int .i64 k ∧ s = .int .i64 c ∧ c ≤ k ∧ Hid (setR p q q (fun _ => false) = setR p q k f) ∧ Hid (0 < c ↔ f b = true) ∧ Below w.heap.size w w') (fun i _ _ => p.length - (intOf i).toNat)
    case atStart => exact ⟨q, 0, fun _ => false, by omega, by have := HQL.out; omega, by rw [HQ.out], rfl, by omega, rfl, by show _ ↔ _; simp, by (repeat (first | with_reducible exact Below.refl _ _ | with_reducible assumption | with_reducible refine below_alloc ?_ _ | with_reducible refine below_grow ?_ _ | with_reducible refine below_drewN ?_ _ | with_reducible refine below_drew ?_ | with_reducible refine below_setCell ?_ (by first | (dsimp only; omega) | (simp; done) | (simp; omega)) _))⟩
    case round =>
      obtain ⟨k, c, f, hqk, hk, rfl, rfl, hck, HR, HC, hb1⟩ := hrel
      by_cases hlt : k < p.length
      · have i0 : (0 : Int) ≤ (k : Int) := by omega
        have i1 : (k : Int) < (p.length : Int) := by omega
        by_cases hend : p[k] = 93 ∧ q < k
        · obtain ⟨h93, hgt⟩ := hend
          have e1 := is_b (n := 93) rfl h93
          have e2 : (n : Int) + 1 + 1 < (k : Int) := by have := HQ.out; omega
          have HE := Lib.hid (setR_end (p := p) (first := q) (f := f) (show p[k]? = some 93 by rw [List.getElem?_eq_getElem hlt, h93]) (by omega))
          clear h93
          by_cases hc0 : 0 < c
          · have HF := Lib.hid (HC.out.1 hc0)
            go_wp2
            go_ret2
            exact SetP.some_ (HBR.out _ (HR.out.trans HE.out)) (by simp [bitI, HF.out]) (by omega) hb1
          · have HF : Hid (f b = false) := by
              cases hf : f b with
              | false => rfl
              | true => exact absurd (HC.out.2 hf) hc0
            have d0 := no hc0
            go_wp2
            go_ret2
            exact SetP.some_ (HBR.out _ (HR.out.trans HE.out)) (by simp [bitI, HF.out]) (by omega) hb1
        · have HNS : Hid (¬ (p[k]? = some 93 ∧ k ≠ q)) := fun h => hend ⟨by have := h.1; rw [List.getElem?_eq_getElem hlt] at this; simpa using this, by have := h.2; omega⟩
          have hor : ¬ p[k] = 93 ∨ (p[k] = 93 ∧ ¬ q < k) := by
            by_cases h : p[k] = 93
            · exact .inr ⟨h, fun h2 => hend ⟨h, h2⟩⟩
            · exact .inl h
          have HMB := Lib.hid fun w => member_ref p k b w hp hlt
          unfold MemPost at HMB
          clear hend
          cases hm : memAt p k with
          | none =>
            rw [(mem_none b hm).1, (mem_none b hm).2] at HMB
            have HE := Lib.hid (setR_none (f := f) hlt HNS.out hm)
            clear hm
            rcases hor with h | ⟨h, h2⟩
            · have e1 := not_b (n := 93) rfl h
              clear h
              go_wp2_with (go_at_call 72; refine (HMB.out _).mono ?_; rintro e w' ⟨rfl, hb⟩; obtain ⟨g, rfl⟩ := to_grow hb; clear hb)
              go_ret2
              exact SetP.none_ (HBN.out (HR.out.trans HE.out)) (by (repeat (first | with_reducible exact Below.refl _ _ | with_reducible assumption | with_reducible refine below_alloc ?_ _ | with_reducible refine below_grow ?_ _ | with_reducible refine below_drewN ?_ _ | with_reducible refine below_drew ?_ | with_reducible refine below_setCell ?_ (by first | (dsimp only; omega) | (simp; done) | (simp; omega)) _)))
            · have e1 := is_b (n := 93) rfl h
              have e2 := no (show ¬ (n : Int) + 1 + 1 < (k : Int) by have := HQ.out; omega)
              clear h
              go_wp2_with (go_at_call 72; refine (HMB.out _).mono ?_; rintro e w' ⟨rfl, hb⟩; obtain ⟨g, rfl⟩ := to_grow hb; clear hb)
              go_ret2
              exact SetP.none_ (HBN.out (HR.out.trans HE.out)) (by (repeat (first | with_reducible exact Below.refl _ _ | with_reducible assumption | with_reducible refine below_alloc ?_ _ | with_reducible refine below_grow ?_ _ | with_reducible refine below_drewN ?_ _ | with_reducible refine below_drew ?_ | with_reducible refine below_setCell ?_ (by first | (dsimp only; omega) | (simp; done) | (simp; omega)) _)))
          | some x =>
            obtain ⟨g, e⟩ := x
            rw [(mem_some b hm).1, (mem_some b hm).2] at HMB
            have HE := Lib.hid (setR_some (f := f) hlt HNS.out hm)
            have hee := memAt_end hm
            have hbi : 0 ≤ bitI (g b) ∧ bitI (g b) ≤ 1 := by unfold bitI; split <;> omega
            have HG := Lib.hid (some_more (c := c) HC.out (g := g))
            obtain ⟨x, hx⟩ : ∃ x : Nat, bitI (g b) = x := ⟨(bitI (g b)).toNat, by omega⟩
            have HX := Lib.hid hx
            rw [hx] at HMB
            have hx1 : x ≤ 1 := by omega
            have d0 := no (show ¬ (e : Int) < 0 by omega)
            clear hm hbi hx
            rcases hor with h | ⟨h, h2⟩
            · have e1 := not_b (n := 93) rfl h
              clear h
              go_wp2_with (go_at_call 72; refine (HMB.out _).mono ?_; rintro e w' ⟨rfl, hb⟩; obtain ⟨g, rfl⟩ := to_grow hb; clear hb)
              go_roundw
              case rel => exact ⟨e, c + x, _, by omega, by omega, rfl, by go_num, by omega, HR.out.trans HE.out, HG.out x HX.out, by (repeat (first | with_reducible exact Below.refl _ _ | with_reducible assumption | with_reducible refine below_alloc ?_ _ | with_reducible refine below_grow ?_ _ | with_reducible refine below_drewN ?_ _ | with_reducible refine below_drew ?_ | with_reducible refine below_setCell ?_ (by first | (dsimp only; omega) | (simp; done) | (simp; omega)) _))⟩
              case measure => simp [intOf]; omega
            · have e1 := is_b (n := 93) rfl h
              have e2 := no (show ¬ (n : Int) + 1 + 1 < (k : Int) by have := HQ.out; omega)
              clear h
              go_wp2_with (go_at_call 72; refine (HMB.out _).mono ?_; rintro e w' ⟨rfl, hb⟩; obtain ⟨g, rfl⟩ := to_grow hb; clear hb)
              go_roundw
              case rel => exact ⟨e, c + x, _, by omega, by omega, rfl, by go_num, by omega, HR.out.trans HE.out, HG.out x HX.out, by (repeat (first | with_reducible exact Below.refl _ _ | with_reducible assumption | with_reducible refine below_alloc ?_ _ | with_reducible refine below_grow ?_ _ | with_reducible refine below_drewN ?_ _ | with_reducible refine below_drew ?_ | with_reducible refine below_setCell ?_ (by first | (dsimp only; omega) | (simp; done) | (simp; omega)) _))⟩
              case measure => simp [intOf]; omega
      · have HE := Lib.hid (setR_over (p := p) (first := q) (f := f) (show p.length ≤ k by omega))
        have d1 := no hlt
        go_wp2
        go_ret2
        exact SetP.none_ (HBN.out (HR.out.trans HE.out)) hb1
  · have hg : ¬ p[n + 1]? = some 33 := fun h => by
      obtain ⟨h1, h2⟩ := List.getElem?_eq_some_iff.1 h
      exact h33 ⟨h1, h2⟩
    have HBR := Lib.hid fun (x : (UInt8 → Bool) × Nat) (h : setR p (n + 1) (n + 1) (fun _ => false) = some x) => (brAt_plain hg).trans h
    have HBN := Lib.hid fun (h : setR p (n + 1) (n + 1) (fun _ => false) = none) => (brAt_plain hg).trans h
    have hor : ¬ n + 1 < p.length ∨ ∃ h : n + 1 < p.length, ¬ p[n + 1] = 33 := by
      by_cases h1 : n + 1 < p.length
      · exact .inr ⟨h1, fun h => h33 ⟨h1, h⟩⟩
      · exact .inl h1
    clear hg h33
    obtain ⟨q, hq⟩ : ∃ q, q = n + 1 := ⟨_, rfl⟩
    rw [← hq] at HBR HBN
    have HQ : Hid ((q : Int) = (n : Int) + 1) := by show _ = _; omega
    have HQL : Hid (q ≤ p.length) := by show _ ≤ _; omega
    clear hq
    rcases hor with h1 | ⟨h1, h33⟩
    all_goals
      try have d1 := no (show ¬ (n : Int) + 1 < (p.length : Int) by omega)
      try have d1 : (n : Int) + 1 < (p.length : Int) := by omega
      try have d2 := not_b (n := 33) rfl h33
      try clear h33
      go_enter Tryz.func48, Tryz.ntmps48
      go_wp2
      go_loopw [1, 10] (fun i s w' => ∃ (k c : Nat) (f : UInt8 → Bool), q ≤ k ∧ k ≤ p.length ∧ i = .int .i64 k ∧ s = .int .i64 c ∧ c ≤ k ∧ Hid (setR p q q (fun _ => false) = setR p q k f) ∧ Hid (0 < c ↔ f b = true) ∧ Below w.heap.size w w') (fun i _ _ => p.length - (intOf i).toNat)
      case atStart => exact ⟨q, 0, fun _ => false, by omega, by have := HQL.out; omega, by rw [HQ.out], rfl, by omega, rfl, by show _ ↔ _; simp, by (repeat (first | with_reducible exact Below.refl _ _ | with_reducible assumption | with_reducible refine below_alloc ?_ _ | with_reducible refine below_grow ?_ _ | with_reducible refine below_drewN ?_ _ | with_reducible refine below_drew ?_ | with_reducible refine below_setCell ?_ (by first | (dsimp only; omega) | (simp; done) | (simp; omega)) _))⟩
      case round =>
        obtain ⟨k, c, f, hqk, hk, rfl, rfl, hck, HR, HC, hb1⟩ := hrel
        by_cases hlt : k < p.length
        · have i0 : (0 : Int) ≤ (k : Int) := by omega
          have i1 : (k : Int) < (p.length : Int) := by omega
          by_cases hend : p[k] = 93 ∧ q < k
          · obtain ⟨h93, hgt⟩ := hend
            have e1 := is_b (n := 93) rfl h93
            have e2 : (n : Int) + 1 < (k : Int) := by have := HQ.out; omega
            have HE := Lib.hid (setR_end (p := p) (first := q) (f := f) (show p[k]? = some 93 by rw [List.getElem?_eq_getElem hlt, h93]) (by omega))
            clear h93
            by_cases hc0 : 0 < c
            · have HF := Lib.hid (HC.out.1 hc0)
              go_wp2
              go_ret2
              exact SetP.some_ (HBR.out _ (HR.out.trans HE.out)) (by simp [bitI, HF.out]) (by omega) hb1
            · have HF : Hid (f b = false) := by
                cases hf : f b with
                | false => rfl
                | true => exact absurd (HC.out.2 hf) hc0
              have d0 := no hc0
              go_wp2
              go_ret2
              exact SetP.some_ (HBR.out _ (HR.out.trans HE.out)) (by simp [bitI, HF.out]) (by omega) hb1
          · have HNS : Hid (¬ (p[k]? = some 93 ∧ k ≠ q)) := fun h => hend ⟨by have := h.1; rw [List.getElem?_eq_getElem hlt] at this; simpa using this, by have := h.2; omega⟩
            have hor : ¬ p[k] = 93 ∨ (p[k] = 93 ∧ ¬ q < k) := by
              by_cases h : p[k] = 93
              · exact .inr ⟨h, fun h2 => hend ⟨h, h2⟩⟩
              · exact .inl h
            have HMB := Lib.hid fun w => member_ref p k b w hp hlt
            unfold MemPost at HMB
            clear hend
            cases hm : memAt p k with
            | none =>
              rw [(mem_none b hm).1, (mem_none b hm).2] at HMB
              have HE := Lib.hid (setR_none (f := f) hlt HNS.out hm)
              clear hm
              rcases hor with h | ⟨h, h2⟩
              · have e1 := not_b (n := 93) rfl h
                clear h
                go_wp2_with (go_at_call 72; refine (HMB.out _).mono ?_; rintro e w' ⟨rfl, hb⟩; obtain ⟨g, rfl⟩ := to_grow hb; clear hb)
                go_ret2
                exact SetP.none_ (HBN.out (HR.out.trans HE.out)) (by (repeat (first | with_reducible exact Below.refl _ _ | with_reducible assumption | with_reducible refine below_alloc ?_ _ | with_reducible refine below_grow ?_ _ | with_reducible refine below_drewN ?_ _ | with_reducible refine below_drew ?_ | with_reducible refine below_setCell ?_ (by first | (dsimp only; omega) | (simp; done) | (simp; omega)) _)))
              · have e1 := is_b (n := 93) rfl h
                have e2 := no (show ¬ (n : Int) + 1 < (k : Int) by have := HQ.out; omega)
                clear h
                go_wp2_with (go_at_call 72; refine (HMB.out _).mono ?_; rintro e w' ⟨rfl, hb⟩; obtain ⟨g, rfl⟩ := to_grow hb; clear hb)
                go_ret2
                exact SetP.none_ (HBN.out (HR.out.trans HE.out)) (by (repeat (first | with_reducible exact Below.refl _ _ | with_reducible assumption | with_reducible refine below_alloc ?_ _ | with_reducible refine below_grow ?_ _ | with_reducible refine below_drewN ?_ _ | with_reducible refine below_drew ?_ | with_reducible refine below_setCell ?_ (by first | (dsimp only; omega) | (simp; done) | (simp; omega)) _)))
            | some x =>
              obtain ⟨g, e⟩ := x
              rw [(mem_some b hm).1, (mem_some b hm).2] at HMB
              have HE := Lib.hid (setR_some (f := f) hlt HNS.out hm)
              have hee := memAt_end hm
              have hbi : 0 ≤ bitI (g b) ∧ bitI (g b) ≤ 1 := by unfold bitI; split <;> omega
              have HG := Lib.hid (some_more (c := c) HC.out (g := g))
              obtain ⟨x, hx⟩ : ∃ x : Nat, bitI (g b) = x := ⟨(bitI (g b)).toNat, by omega⟩
              have HX := Lib.hid hx
              rw [hx] at HMB
              have hx1 : x ≤ 1 := by omega
              have d0 := no (show ¬ (e : Int) < 0 by omega)
              clear hm hbi hx
              rcases hor with h | ⟨h, h2⟩
              · have e1 := not_b (n := 93) rfl h
                clear h
                go_wp2_with (go_at_call 72; refine (HMB.out _).mono ?_; rintro e w' ⟨rfl, hb⟩; obtain ⟨g, rfl⟩ := to_grow hb; clear hb)
                go_roundw
                case rel => exact ⟨e, c + x, _, by omega, by omega, rfl, by go_num, by omega, HR.out.trans HE.out, HG.out x HX.out, by (repeat (first | with_reducible exact Below.refl _ _ | with_reducible assumption | with_reducible refine below_alloc ?_ _ | with_reducible refine below_grow ?_ _ | with_reducible refine below_drewN ?_ _ | with_reducible refine below_drew ?_ | with_reducible refine below_setCell ?_ (by first | (dsimp only; omega) | (simp; done) | (simp; omega)) _))⟩
                case measure => simp [intOf]; omega
              · have e1 := is_b (n := 93) rfl h
                have e2 := no (show ¬ (n : Int) + 1 < (k : Int) by have := HQ.out; omega)
                clear h
                go_wp2_with (go_at_call 72; refine (HMB.out _).mono ?_; rintro e w' ⟨rfl, hb⟩; obtain ⟨g, rfl⟩ := to_grow hb; clear hb)
                go_roundw
                case rel => exact ⟨e, c + x, _, by omega, by omega, rfl, by go_num, by omega, HR.out.trans HE.out, HG.out x HX.out, by (repeat (first | with_reducible exact Below.refl _ _ | with_reducible assumption | with_reducible refine below_alloc ?_ _ | with_reducible refine below_grow ?_ _ | with_reducible refine below_drewN ?_ _ | with_reducible refine below_drew ?_ | with_reducible refine below_setCell ?_ (by first | (dsimp only; omega) | (simp; done) | (simp; omega)) _))⟩
                case measure => simp [intOf]; omega
        · have HE := Lib.hid (setR_over (p := p) (first := q) (f := f) (show p.length ≤ k by omega))
          have d1 := no hlt
          go_wp2
          go_ret2
          exact SetP.none_ (HBN.out (HR.out.trans HE.out)) hb1
end Go.Proofs.YtnecmpgcjgkheaaGreat.Pat
