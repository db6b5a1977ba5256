/-
  The walks of layer 16 (pattern): the reference's Parse. Conditions: texts of at most 2^30 bytes.
-/
import Derived.Test.YteojepadhonbiaaPat16
namespace Go.Proofs.Yteojepadhonbiaa.Pat
open Go.ChangeShapes Go.WideShapes Go.Deep Go.RowKit
set_option maxRecDepth 100000
theorem atC_byte (d : UInt8) : atC (.byte d) = [.int .i64 1, .int .u8 d.toNat, .int .u64 0, .int .u64 0, .int .u64 0, .int .u64 0] := by simp [atC, At.kind, At.byt, At.fs, word_zero]
theorem atC_one' : atC .one = [.int .i64 2, .int .u8 0, .int .u64 0, .int .u64 0, .int .u64 0, .int .u64 0] := by simp [atC, At.kind, At.byt, At.fs, word_zero]
theorem atC_many : atC .many = [.int .i64 3, .int .u8 0, .int .u64 0, .int .u64 0, .int .u64 0, .int .u64 0] := by simp [atC, At.kind, At.byt, At.fs, word_zero]
theorem atC_set (f : UInt8 → Bool) : atC (.set f) = [.int .i64 4, .int .u8 0, .int .u64 (wordOf f 0 : Nat), .int .u64 (wordOf f 1 : Nat), .int .u64 (wordOf f 2 : Nat), .int .u64 (wordOf f 3 : Nat)] := by simp [atC, At.kind, At.byt, At.fs]
theorem _root_.Go.Proofs.Yteojepadhonbiaa.Src.oneAt (w : World) (b : Nat) (cs : List Value) (t : TypeId) (m : Nat) (h : w.heap.size = b) : Src (w.alloc (.cells cs.toArray t)) (.slice (some ⟨b, 0, none⟩) m m) m cs := by
  subst h; exact Src.one w cs t m
/-- What holds at each round of the reference's Parse. -/
structure RP (p : List UInt8) (w wr : World) (v : Value) (pre : List At) (k : Nat) : Prop where
  o : Own wr w.heap.size 6 v pre.length (pre.flatMap atC)
  e : parse p = pre ++ parseFrom p k
  l : pre.length ≤ k
  b : Below w.heap.size w wr
theorem RP.more {p : List UInt8} {w wr W w1 : World} {v v' : Value} {pre : List At} {k q : Nat} {a : At} {c : UInt8} {cs : List Value} (h : RP p w wr v pre k) (hc : p[k]? = some c) (ha : atomAt p k c = (a, q)) (hcs : atC a = cs)
    (hb : Below w.heap.size w W) (ho : Own w1 w.heap.size 6 v' (pre.length + 1) (pre.flatMap atC ++ cs)) (hk : Keeps (fun k => v.ownBlock = some k ∧ w.heap.size ≤ k) W w1) : RP p w w1 v' (pre ++ [a]) q := by
  have hst := parseFrom_step hc
  have he := atomAt_end hc
  rw [ha] at hst he
  refine ⟨by simpa [← hcs] using ho, by rw [h.e, hst]; simp, by have := h.l; simp; omega, below_keeps hb hk (fun k hk => hk.2)⟩
def uptoF (g : UInt8 → Bool) (k : Nat) : UInt8 → Bool := fun c => decide (c.toNat < k) && g c
theorem uptoF_zero (g : UInt8 → Bool) : uptoF g 0 = fun _ => false := by funext c; simp [uptoF]
theorem uptoF_all (g : UInt8 → Bool) : uptoF g 256 = g := by
  funext c
  have := c.toNat_lt
  simp only [uptoF, decide_eq_true (show c.toNat < 256 by omega), Bool.true_and]
theorem uptoF_yes {g : UInt8 → Bool} {k : Nat} (hk : k < 256) (h : g (UInt8.ofNat k) = true) : (fun c => uptoF g k c || c == UInt8.ofNat k) = uptoF g (k + 1) := by
  funext c
  simp only [uptoF]
  by_cases e : c = UInt8.ofNat k
  · have e2 := (byte_k hk c).1 e
    have h' : g c = true := by rw [e]; exact h
    rw [decide_eq_true (show c.toNat < k + 1 by omega), h', e]; simp
  · have e2 : c.toNat ≠ k := fun h => e ((byte_k hk c).2 h)
    have e3 : (c == UInt8.ofNat k) = false := by simpa using e
    rw [e3, Bool.or_false]
    by_cases h1 : c.toNat < k
    · rw [decide_eq_true h1, decide_eq_true (show c.toNat < k + 1 by omega)]
    · rw [decide_eq_false h1, decide_eq_false (show ¬ c.toNat < k + 1 by omega)]
theorem uptoF_no {g : UInt8 → Bool} {k : Nat} (hk : k < 256) (h : g (UInt8.ofNat k) = false) : uptoF g k = uptoF g (k + 1) := by
  funext c
  simp only [uptoF]
  by_cases e : c = UInt8.ofNat k
  · rw [← e] at h
    rw [h]; simp
  · have e2 : c.toNat ≠ k := fun h => e ((byte_k hk c).2 h)
    by_cases h1 : c.toNat < k
    · rw [decide_eq_true h1, decide_eq_true (show c.toNat < k + 1 by omega)]
    · rw [decide_eq_false h1, decide_eq_false (show ¬ c.toNat < k + 1 by omega)]
theorem ofNat_toNat {j : Nat} (h : j < 256) : (UInt8.ofNat j).toNat = j := by simp; omega
theorem orbit_j (f : UInt8 → Bool) {j : Nat} (h : j < 256) : Go.bits .or .u64 ((wordOf f (j / 64) : Nat) : Int) (2 ^ (j % 64) : Int) = ((wordOf (fun x => f x || x == UInt8.ofNat j) (j / 64) : Nat) : Int) := by
  have := orbit f (UInt8.ofNat j)
  rwa [ofNat_toNat h] at this
theorem abox_get {w : World} {ab : Nat} {f : UInt8 → Bool} (h : BoxN w ab (atC (.set f))) (i : Nat) (hi : i < 4) : w.cell? ⟨ab, 2 + i, none⟩ = some (.int .u64 (wordOf f i : Nat)) := by
  refine h.c (2 + i) _ ?_
  match i, hi with
  | 0, _ => rfl
  | 1, _ => rfl
  | 2, _ => rfl
  | 3, _ => rfl
theorem abox_step {w : World} {ab j : Nat} {f : UInt8 → Bool} (h : BoxN w ab (atC (.set f))) (hj : j < 256) : BoxN (w.setCell ⟨ab, 2 + j / 64, none⟩ (.int .u64 (wordOf (fun x => f x || x == UInt8.ofNat j) (j / 64) : Nat))) ab (atC (.set (fun x => f x || x == UInt8.ofNat j))) := by
  have hs (i : Nat) (hi : i < 4) (hne : i ≠ j / 64) : wordOf f i = wordOf (fun x => f x || x == UInt8.ofNat j) i := word_same f _ i hi (by rw [ofNat_toNat hj]; exact hne)
  refine ⟨by simpa [World.setCell] using h.lt, fun k u hk => ?_, fun k => by simp only [World.frozen?_setCell]; exact h.f k⟩
  by_cases e : k = 2 + j / 64
  · subst e
    have hold := abox_get h (j / 64) (by omega)
    rw [World.cell?_setCell_same' _ _ _ (by rw [hold]; rfl)]
    have hj4 : j / 64 < 4 := by omega
    generalize j / 64 = i at *
    match i, hj4, hk with
    | 0, _, hk => simpa [atC, At.fs] using hk
    | 1, _, hk => simpa [atC, At.fs] using hk
    | 2, _, hk => simpa [atC, At.fs] using hk
    | 3, _, hk => simpa [atC, At.fs] using hk
  · rw [World.cell?_setCell_other _ _ _ _ (by first | (simp; done) | (simp; exact fun h => e h.symm))]
    refine h.c k u ?_
    rw [← hk]
    match k with
    | 0 => rfl
    | 1 => rfl
    | 2 => simp only [atC, At.fs]; rw [hs 0 (by omega) (by omega)]; rfl
    | 3 => simp only [atC, At.fs]; rw [hs 1 (by omega) (by omega)]; rfl
    | 4 => simp only [atC, At.fs]; rw [hs 2 (by omega) (by omega)]; rfl
    | 5 => simp only [atC, At.fs]; rw [hs 3 (by omega) (by omega)]; rfl
    | k + 6 => rfl
end Go.Proofs.Yteojepadhonbiaa.Pat
