/-
  The walks of layer 16 (pattern): one byte of a set, classes named in a text. Conditions: texts of at most 2^40 bytes.
-/
import Derived.Test.YteojepadhonbiaaPat2
namespace Go.Proofs.Yteojepadhonbiaa.Pat
open Go.ChangeShapes Go.WideShapes Go.Deep Go.RowKit
set_option maxRecDepth 100000
theorem is_b {c : UInt8} {k : UInt8} {n : Int} (hn : n = (k.toNat : Int)) (h : c = k) : ((c.toNat : Int) == n) = true := by subst hn h; simp
theorem not_b {c : UInt8} {k : UInt8} {n : Int} (hn : n = (k.toNat : Int)) (h : c ≠ k) : ((c.toNat : Int) == n) = false := by
  subst hn
  rw [beq_eq_false_iff_ne]
  intro e
  exact h (UInt8.toNat_inj.1 (by omega))
theorem is_nb {c : UInt8} {k : UInt8} {n : Int} (hn : n = (k.toNat : Int)) (h : c = k) : ((c.toNat : Int) != n) = false := by rw [bne, is_b hn h]; rfl
theorem not_nb {c : UInt8} {k : UInt8} {n : Int} (hn : n = (k.toNat : Int)) (h : c ≠ k) : ((c.toNat : Int) != n) = true := by rw [bne, not_b hn h]; rfl
def oneV (p : List UInt8) (n : Nat) : UInt8 × Nat :=
  match p[if p[n]? = some 92 then n + 1 else n]? with
  | none => (0, 0)
  | some c => (c, (if p[n]? = some 92 then n + 1 else n) + 1)
theorem oneV_none {p : List UInt8} {n m : Nat} (h : (if p[n]? = some 92 then n + 1 else n) = m) (h2 : p[m]? = none) : oneV p n = (0, 0) := by
  unfold oneV; rw [h, h2]
theorem oneV_some {p : List UInt8} {n m : Nat} {c : UInt8} (h : (if p[n]? = some 92 then n + 1 else n) = m) (h2 : p[m]? = some c) : oneV p n = (c, m + 1) := by
  unfold oneV; rw [h, h2]
theorem one_any (p : List UInt8) (n : Nat) (w : World) (hp : p.length ≤ 1099511627776) (hn : n ≤ 1099511627776) :
    Calls Try.prog 140 #[.string (B p), .int .i64 n] w fun e w' => e = .returned (.tuple #[.int .u8 (oneV p n).1.toNat, .int .i64 (oneV p n).2]) ∧ w = w' := by
  have i0 : (0 : Int) ≤ (n : Int) := by omega
  by_cases h : n < p.length
  · have hi : (n : Int) < (p.length : Int) := by omega
    by_cases hc : p[n] = 92
    · have e1 := is_b (n := 92) rfl hc
      have hm : (if p[n]? = some 92 then n + 1 else n) = n + 1 := by rw [List.getElem?_eq_getElem h, hc]; rfl
      by_cases h1 : n + 1 < p.length
      · rw [oneV_some hm (List.getElem?_eq_getElem h1)]
        have d1 := no (show ¬ ((p.length : Int) ≤ (n : Int) + 1) by omega)
        have d2 : (n : Int) + 1 < (p.length : Int) := by omega
        clear hc hm
        go_enter Try.func140, Try.ntmps140
        go_wp2
        go_ret2
        exact ⟨rfl, rfl⟩
      · rw [oneV_none hm (List.getElem?_eq_none (by omega))]
        have d1 : (p.length : Int) ≤ (n : Int) + 1 := by omega
        clear hc hm h1
        go_enter Try.func140, Try.ntmps140
        go_wp2
        go_ret2
        exact ⟨rfl, rfl⟩
    · have e1 := not_b (n := 92) rfl hc
      have hm : (if p[n]? = some 92 then n + 1 else n) = n := by rw [List.getElem?_eq_getElem h]; rw [if_neg]; simpa using hc
      rw [oneV_some hm (List.getElem?_eq_getElem h)]
      have d1 := no (show ¬ (p.length ≤ n) by omega)
      clear hc hm
      go_enter Try.func140, Try.ntmps140
      go_wp2
      go_ret2
      exact ⟨rfl, rfl⟩
  · have hm : (if p[n]? = some 92 then n + 1 else n) = n := by rw [List.getElem?_eq_none (by omega)]; rfl
    rw [oneV_none hm (List.getElem?_eq_none (by omega))]
    have d1 := no (show ¬ n < p.length by omega)
    have d2 : p.length ≤ n := by omega
    clear h hm
    go_enter Try.func140, Try.ntmps140
    go_wp2
    go_ret2
    exact ⟨rfl, rfl⟩
end Go.Proofs.Yteojepadhonbiaa.Pat
