/-
  The walks of layer 16 (pattern): the atom at a place. Conditions: texts of at most 2^30 bytes; the library's variable MaxLen holds some number.
-/
import Derived.Test.YtnecmpgcjgkheaaGreatPat11
set_option linter.unusedSimpArgs false
set_option linter.unusedVariables false
namespace Go.Proofs.YtnecmpgcjgkheaaGreat.Pat
open Go.ChangeShapes Go.WideShapes Go.Deep Go.RowKit
set_option maxRecDepth 100000
def At.kind : At → Int
  | .byte _ => 1
  | .one => 2
  | .many => 3
  | .set _ => 4
def At.byt : At → UInt8
  | .byte b => b
  | _ => 0
def At.fs : At → UInt8 → Bool
  | .set f => f
  | _ => fun _ => false
def atC (a : At) : List Value := [.int .i64 a.kind, .int .u8 a.byt.toNat, .int .u64 (wordOf a.fs 0 : Nat), .int .u64 (wordOf a.fs 1 : Nat), .int .u64 (wordOf a.fs 2 : Nat), .int .u64 (wordOf a.fs 3 : Nat)]
def atV (a : At) : Value := .agg #[.int .i64 a.kind, .int .u8 a.byt.toNat, .int .u64 (wordOf a.fs 0 : Nat), .int .u64 (wordOf a.fs 1 : Nat), .int .u64 (wordOf a.fs 2 : Nat), .int .u64 (wordOf a.fs 3 : Nat)]
theorem atV_byte (d : UInt8) : atV (.byte d) = .agg #[.int .i64 1, .int .u8 d.toNat, .int .u64 0, .int .u64 0, .int .u64 0, .int .u64 0] := by simp [atV, At.kind, At.byt, At.fs, word_zero]
theorem atV_one : atV .one = .agg #[.int .i64 2, .int .u8 0, .int .u64 0, .int .u64 0, .int .u64 0, .int .u64 0] := by simp [atV, At.kind, At.byt, At.fs, word_zero]
theorem atV_many : atV .many = .agg #[.int .i64 3, .int .u8 0, .int .u64 0, .int .u64 0, .int .u64 0, .int .u64 0] := by simp [atV, At.kind, At.byt, At.fs, word_zero]
theorem atV_set (f : UInt8 → Bool) : atV (.set f) = .agg #[.int .i64 4, .int .u8 0, .int .u64 (wordOf f 0 : Nat), .int .u64 (wordOf f 1 : Nat), .int .u64 (wordOf f 2 : Nat), .int .u64 (wordOf f 3 : Nat)] := by simp [atV, At.kind, At.byt, At.fs]
def AtomP (p : List UInt8) (n : Nat) (c : UInt8) (w : World) (e : Ending) (w' : World) : Prop := e = .returned (.tuple #[atV (atomAt p n c).1, .int .i64 (atomAt p n c).2]) ∧ Below w.heap.size w w'
theorem AtomP.mk {p : List UInt8} {n m : Nat} {c : UInt8} {a : At} {w w' : World} {v : Value} {y : Int} (h : atomAt p n c = (a, m)) (hv : atV a = v) (hy : y = m) (hb : Below w.heap.size w w') : AtomP p n c w (.returned (.tuple #[v, .int .i64 y])) w' := by
  refine ⟨?_, hb⟩
  rw [h, ← hv, hy]
set_option maxHeartbeats 6400000 in
theorem atom_any (p : List UInt8) (n : Nat) (w : World) (hm : MaxL w) (hp : p.length ≤ 1073741824) (hn : n < p.length) :
    Calls Tryz.prog 93 #[.string (B p), .int .i64 n] w (AtomP p n p[n] w) := by
  have HBK := Lib.hid fun w hm => bracket_any p n w hm hp hn
  unfold BrP at HBK
  have HM := Lib.hid hm
  have i0 : (0 : Int) ≤ (n : Int) := by omega
  have i1 : (n : Int) < (p.length : Int) := by omega
  clear hm
  by_cases h92 : p[n] = 92
  · have e0 := is_b (n := 92) rfl h92
    have e1 := not_b (c := p[n]) (k := 63) (n := 63) rfl (by rw [h92]; decide)
    have e2 := not_b (c := p[n]) (k := 42) (n := 42) rfl (by rw [h92]; decide)
    have e3 := not_b (c := p[n]) (k := 91) (n := 91) rfl (by rw [h92]; decide)
    by_cases h1 : n + 1 < p.length
    · have HA := Lib.hid (show atomAt p n p[n] = (.byte p[n + 1], n + 2) by unfold atomAt; rw [if_pos h92, List.getElem?_eq_getElem h1])
      have d1 : (n : Int) + 1 < (p.length : Int) := by omega
      clear h92
      go_enter Tryz.func93, Tryz.ntmps93
      go_wp2
      exact bodyPost_ret (v := .tuple #[.agg #[.int .i64 1, .int .u8 p[n + 1].toNat, .int .u64 0, .int .u64 0, .int .u64 0, .int .u64 0], .int .i64 ((n : Int) + 2)]) (by simp [results, Tryz.results93, go_sem]) rfl (AtomP.mk HA.out (atV_byte _) (by omega) (by (repeat (first | with_reducible exact Below.refl _ _ | with_reducible assumption | with_reducible refine below_alloc ?_ _ | with_reducible refine below_grow ?_ _ | with_reducible refine below_drewN ?_ _ | with_reducible refine below_drew ?_ | with_reducible refine below_setCell ?_ (by first | (dsimp only; omega) | (simp; done) | (simp; omega)) _))))
    · have HA := Lib.hid (show atomAt p n p[n] = (.byte p[n], n + 1) by unfold atomAt; rw [if_pos h92, List.getElem?_eq_none (by omega)])
      have d1 := no (show ¬ (n : Int) + 1 < (p.length : Int) by omega)
      clear h92
      go_enter Tryz.func93, Tryz.ntmps93
      go_wp2
      exact bodyPost_ret (v := .tuple #[.agg #[.int .i64 1, .int .u8 p[n].toNat, .int .u64 0, .int .u64 0, .int .u64 0, .int .u64 0], .int .i64 ((n : Int) + 1)]) (by simp [results, Tryz.results93, go_sem]) rfl (AtomP.mk HA.out (atV_byte _) (by omega) (by (repeat (first | with_reducible exact Below.refl _ _ | with_reducible assumption | with_reducible refine below_alloc ?_ _ | with_reducible refine below_grow ?_ _ | with_reducible refine below_drewN ?_ _ | with_reducible refine below_drew ?_ | with_reducible refine below_setCell ?_ (by first | (dsimp only; omega) | (simp; done) | (simp; omega)) _))))
  have e0 := not_b (n := 92) rfl h92
  by_cases h63 : p[n] = 63
  · have e1 := is_b (n := 63) rfl h63
    have e2 := not_b (c := p[n]) (k := 42) (n := 42) rfl (by rw [h63]; decide)
    have e3 := not_b (c := p[n]) (k := 91) (n := 91) rfl (by rw [h63]; decide)
    have HA := Lib.hid (show atomAt p n p[n] = (.one, n + 1) by unfold atomAt; rw [if_neg h92, if_pos h63])
    clear h92 h63
    go_enter Tryz.func93, Tryz.ntmps93
    go_wp2
    exact bodyPost_ret (v := .tuple #[.agg #[.int .i64 2, .int .u8 0, .int .u64 0, .int .u64 0, .int .u64 0, .int .u64 0], .int .i64 ((n : Int) + 1)]) (by simp [results, Tryz.results93, go_sem]) rfl (AtomP.mk HA.out atV_one (by omega) (by (repeat (first | with_reducible exact Below.refl _ _ | with_reducible assumption | with_reducible refine below_alloc ?_ _ | with_reducible refine below_grow ?_ _ | with_reducible refine below_drewN ?_ _ | with_reducible refine below_drew ?_ | with_reducible refine below_setCell ?_ (by first | (dsimp only; omega) | (simp; done) | (simp; omega)) _))))
  have e1 := not_b (n := 63) rfl h63
  by_cases h42 : p[n] = 42
  · have e2 := is_b (n := 42) rfl h42
    have e3 := not_b (c := p[n]) (k := 91) (n := 91) rfl (by rw [h42]; decide)
    have HA := Lib.hid (show atomAt p n p[n] = (.many, n + 1) by unfold atomAt; rw [if_neg h92, if_neg h63, if_pos h42])
    clear h92 h63 h42
    go_enter Tryz.func93, Tryz.ntmps93
    go_wp2
    exact bodyPost_ret (v := .tuple #[.agg #[.int .i64 3, .int .u8 0, .int .u64 0, .int .u64 0, .int .u64 0, .int .u64 0], .int .i64 ((n : Int) + 1)]) (by simp [results, Tryz.results93, go_sem]) rfl (AtomP.mk HA.out atV_many (by omega) (by (repeat (first | with_reducible exact Below.refl _ _ | with_reducible assumption | with_reducible refine below_alloc ?_ _ | with_reducible refine below_grow ?_ _ | with_reducible refine below_drewN ?_ _ | with_reducible refine below_drew ?_ | with_reducible refine below_setCell ?_ (by first | (dsimp only; omega) | (simp; done) | (simp; omega)) _))))
  have e2 := not_b (n := 42) rfl h42
  by_cases h91 : p[n] = 91
  · have e3 := is_b (n := 91) rfl h91
    cases hb : brAt p n with
    | some x =>
      obtain ⟨f, e⟩ := x
      have HA := Lib.hid (show atomAt p n p[n] = (.set f, e) by unfold atomAt; rw [if_neg h92, if_neg h63, if_neg h42, if_pos h91, hb])
      have hbf : brF p n = f := by unfold brF; rw [hb]
      have hbe : brE p n = e := by unfold brE; rw [hb]
      have hee := brAt_end hb
      rw [hbf, hbe] at HBK
      unfold setV at HBK
      have d0 : (0 : Int) < (e : Int) := by omega
      have d1 : 0 < e := by omega
      clear h92 h63 h42 h91 hb hbf hbe
      go_enter Tryz.func93, Tryz.ntmps93
      go_wp2_with (go_at_call 104; refine (HBK.out _ (HM.out.below (by (repeat (first | with_reducible exact Below.refl _ _ | with_reducible assumption | with_reducible refine below_alloc ?_ _ | with_reducible refine below_grow ?_ _ | with_reducible refine below_drewN ?_ _ | with_reducible refine below_drew ?_ | with_reducible refine below_setCell ?_ (by first | (dsimp only; omega) | (simp; done) | (simp; omega)) _))))).mono ?_; rintro e w' ⟨rfl, hb⟩; obtain ⟨g, rfl⟩ := to_grow hb; clear hb)
      exact bodyPost_ret (v := .tuple #[.agg #[.int .i64 4, .int .u8 0, .int .u64 (wordOf f 0 : Nat), .int .u64 (wordOf f 1 : Nat), .int .u64 (wordOf f 2 : Nat), .int .u64 (wordOf f 3 : Nat)], .int .i64 e]) (by simp [results, Tryz.results93, go_sem]) rfl (AtomP.mk HA.out (atV_set _) (by omega) (by (repeat (first | with_reducible exact Below.refl _ _ | with_reducible assumption | with_reducible refine below_alloc ?_ _ | with_reducible refine below_grow ?_ _ | with_reducible refine below_drewN ?_ _ | with_reducible refine below_drew ?_ | with_reducible refine below_setCell ?_ (by first | (dsimp only; omega) | (simp; done) | (simp; omega)) _))))
    | none =>
      have HA := Lib.hid (show atomAt p n p[n] = (.byte p[n], n + 1) by unfold atomAt; rw [if_neg h92, if_neg h63, if_neg h42, if_pos h91, hb])
      have hbf : brF p n = fun _ => false := by unfold brF; rw [hb]
      have hbe : brE p n = 0 := by unfold brE; rw [hb]
      rw [hbf, hbe, setV0] at HBK
      clear h92 h63 h42 h91 hb hbf hbe
      go_enter Tryz.func93, Tryz.ntmps93
      go_wp2_with (go_at_call 104; refine (HBK.out _ (HM.out.below (by (repeat (first | with_reducible exact Below.refl _ _ | with_reducible assumption | with_reducible refine below_alloc ?_ _ | with_reducible refine below_grow ?_ _ | with_reducible refine below_drewN ?_ _ | with_reducible refine below_drew ?_ | with_reducible refine below_setCell ?_ (by first | (dsimp only; omega) | (simp; done) | (simp; omega)) _))))).mono ?_; rintro e w' ⟨rfl, hb⟩; obtain ⟨g, rfl⟩ := to_grow hb; clear hb)
      exact bodyPost_ret (v := .tuple #[.agg #[.int .i64 1, .int .u8 p[n].toNat, .int .u64 0, .int .u64 0, .int .u64 0, .int .u64 0], .int .i64 ((n : Int) + 1)]) (by simp [results, Tryz.results93, go_sem]) rfl (AtomP.mk HA.out (atV_byte _) (by omega) (by (repeat (first | with_reducible exact Below.refl _ _ | with_reducible assumption | with_reducible refine below_alloc ?_ _ | with_reducible refine below_grow ?_ _ | with_reducible refine below_drewN ?_ _ | with_reducible refine below_drew ?_ | with_reducible refine below_setCell ?_ (by first | (dsimp only; omega) | (simp; done) | (simp; omega)) _))))
  have e3 := not_b (n := 91) rfl h91
  have HA := Lib.hid (show atomAt p n p[n] = (.byte p[n], n + 1) by unfold atomAt; rw [if_neg h92, if_neg h63, if_neg h42, if_neg h91])
  clear h92 h63 h42 h91
  go_enter Tryz.func93, Tryz.ntmps93
  go_wp2
  exact bodyPost_ret (v := .tuple #[.agg #[.int .i64 1, .int .u8 p[n].toNat, .int .u64 0, .int .u64 0, .int .u64 0, .int .u64 0], .int .i64 ((n : Int) + 1)]) (by simp [results, Tryz.results93, go_sem]) rfl (AtomP.mk HA.out (atV_byte _) (by omega) (by (repeat (first | with_reducible exact Below.refl _ _ | with_reducible assumption | with_reducible refine below_alloc ?_ _ | with_reducible refine below_grow ?_ _ | with_reducible refine below_drewN ?_ _ | with_reducible refine below_drew ?_ | with_reducible refine below_setCell ?_ (by first | (dsimp only; omega) | (simp; done) | (simp; omega)) _))))
end Go.Proofs.YtnecmpgcjgkheaaGreat.Pat
