/-
  The walk of layer 16 (pattern): Quote. Conditions: texts of at most 2^30 bytes.
-/
import Derived.Test.YtnecmpgcjgkheaaPat16
import Derived.Test.YtnecmpgcjgkheaaProg
import Derived.Test.YtnecmpgcjgkheaaOwn
import Derived.Lib.SlBytesRow
import Derived.Lib.BufferRead
set_option linter.unusedSimpArgs false
set_option linter.unusedVariables false
namespace Go.Proofs.Ytnecmpgcjgkheaa.Pat
open Go.ChangeShapes Go.WideShapes Go.Deep Go.RowKit
set_option maxRecDepth 100000
/-- What holds at each round of the reference's Parse. -/
structure RP (p : List UInt8) (w wr : World) (v : Value) (pre : List At) (k : Nat) : Prop where
  o : Own wr w.heap.size 6 v pre.length (pre.flatMap atC)
  e : parse p = pre ++ parseFrom p k
  l : pre.length ≤ k
  b : Below w.heap.size w wr
theorem RP.more {p : List UInt8} {w wr W w1 : World} {v v' : Value} {pre : List At} {k q : Nat} {a : At} {c : UInt8} {cs : List Value} (h : RP p w wr v pre k) (hc : p[k]? = some c) (ha : atomAt p k c = (a, q)) (hcs : atC a = cs)
    (hb : Below w.heap.size w W) (ho : Own w1 w.heap.size 6 v' (pre.length + 1) (pre.flatMap atC ++ cs)) (hk : Keeps (fun k => v.ownBlock = some k ∧ w.heap.size ≤ k) W w1) : RP p w w1 v' (pre ++ [a]) q := by
  have hst := parseFrom_step hc
  have he := atomAt_end hc
  rw [ha] at hst he
  refine ⟨by simpa [← hcs] using ho, by rw [h.e, hst]; simp, by have := h.l; simp; omega, below_keeps hb hk (fun k hk => hk.2)⟩
end Go.Proofs.Ytnecmpgcjgkheaa.Pat
namespace Go.Proofs.Ytnecmpgcjgkheaa.Pat
open Go.ChangeShapes Go.WideShapes Go.Deep Go.RowKit
set_option maxRecDepth 100000
end Go.Proofs.Ytnecmpgcjgkheaa.Pat
namespace Go.Proofs.Ytnecmpgcjgkheaa.Pat
open Go.ChangeShapes Go.WideShapes Go.Deep Go.RowKit
set_option maxRecDepth 100000
theorem match_all (p s : List UInt8) (w : World) (hm : MaxL w) (hp : p.length ≤ 1073741824) (hs : s.length ≤ 1073741824) :
    Calls Try.prog 65 #[.string (B p), .string (B s)] w fun e w' => e = .returned (.bool (gm (parse p) s)) ∧ Below w.heap.size w w' := by
  have HP := Lib.hid (parse_any p w hm hp)
  have hpl := parse_len p
  have HMT := Lib.hid fun v w hv => match_any (parse p) s v w hv (by omega) hs
  clear hm
  go_enter Try.func65, Try.ntmps65
  go_wp2_with (first | (go_at_call 78; refine HP.out.mono ?_; rintro e w1 ⟨v, rfl, hv, hb⟩; have HV := Lib.hid hv; obtain ⟨g, rfl⟩ := to_grow hb; clear hv hb) | (go_at_call 77; refine (HMT.out _ _ HV.out).mono ?_; rintro e w' ⟨rfl, hb⟩; obtain ⟨g2, rfl⟩ := to_grow hb; clear hb))
  go_ret
  exact ⟨rfl, by (repeat (first | with_reducible exact Below.refl _ _ | with_reducible assumption | with_reducible refine below_alloc ?_ _ | with_reducible refine below_grow ?_ _ | with_reducible refine below_drewN ?_ _ | with_reducible refine below_drew ?_ | with_reducible refine below_setCell ?_ (by first | (dsimp only; omega) | (simp; done) | (simp; omega)) _))⟩
/-- A row of n bools. -/
structure BRow (w : World) (b n : Nat) (f : Nat → Bool) : Prop where
  lt : b < w.heap.size
  c : ∀ k, k < n → w.cell? ⟨b, k, none⟩ = some (.bool (f k))
  fr : ∀ k, w.frozen? ⟨b, k, none⟩ = false
theorem BRow.below {w W : World} {b n : Nat} {f : Nat → Bool} (h : BRow w b n f) (hb : Below w.heap.size w W) : BRow W b n f :=
  ⟨Nat.lt_of_lt_of_le h.lt hb.size, fun k hk => (hb.cell (p := ⟨b, k, none⟩) h.lt).trans (h.c k hk), fun k => (hb.frozen (p := ⟨b, k, none⟩) h.lt).trans (h.fr k)⟩
theorem BRow.keeps {F : Nat → Prop} {w W : World} {b n : Nat} {f : Nat → Bool} (h : BRow w b n f) (hk : Keeps F w W) (hF : ¬ F b) : BRow W b n f := by
  have e := hk.block b h.lt hF
  exact ⟨Nat.lt_of_lt_of_le h.lt hk.size, fun k hk => (World.cell?_of_block (w := w) e).trans (h.c k hk), fun k => (World.frozen?_of_block (w := w) e).trans (h.fr k)⟩
/-- A new row of n bools. -/
def row0 (n : Nat) : Obj := .cells (madeCells (Value.bool false).cells n) 4
theorem BRow.new (W : World) (n : Nat) : BRow (W.alloc (row0 n)) W.heap.size n (fun _ => false) := by
  refine ⟨by simp, fun k hk => ?_, fun k => by unfold row0; simp [go_sem]⟩
  have hh := heap_alloc_new W (row0 n)
  unfold World.cell?
  simp only [hh]
  simp [row0, madeCells, hk, Value.cells, Nat.mod_one]
theorem BRow.set {w : World} {b n k : Nat} {f g : Nat → Bool} {x : Bool} (h : BRow w b n f) (hx : g k = x) (ho : ∀ j, j ≠ k → j < n → g j = f j) (hk : k < n) : BRow (w.setCell ⟨b, k, none⟩ (.bool x)) b n g := by
  refine ⟨by simpa [World.setCell] using h.lt, fun j hj => ?_, fun j => by simp only [World.frozen?_setCell]; exact h.fr j⟩
  by_cases e : j = k
  · subst e
    rw [World.cell?_setCell_same' _ _ _ (by rw [h.c _ hj]; rfl), hx]
  · rw [World.cell?_setCell_other _ _ _ _ (by first | (simp; done) | (simp; exact fun h => e h.symm)), h.c j hj, ho j e hj]
end Go.Proofs.Ytnecmpgcjgkheaa.Pat
namespace Go.Proofs.Ytnecmpgcjgkheaa
open Go.ChangeShapes Go.WideShapes Go.Deep Go.RowKit
def bytC (x : UInt8) : List Value := [.int .u8 x.toNat]
theorem info_byt : (Try.prog.info? 5).map (fun i => (i.zero, i.size, i.bytes)) = some (some (.int .u8 0), 1, 1) := by kernel_rfl
end Go.Proofs.Ytnecmpgcjgkheaa
namespace Go.Proofs.Ytnecmpgcjgkheaa.Pat
open Go.ChangeShapes Go.WideShapes Go.Deep Go.RowKit
set_option maxRecDepth 100000
theorem bytC_get (xs : List UInt8) (j : Nat) : (xs.flatMap bytC)[j]? = (xs[j]?).map fun y => Value.int .u8 y.toNat := by
  induction xs generalizing j with
  | nil => simp
  | cons y ys ih =>
    cases j with
    | zero => simp [bytC]
    | succ j => simpa [bytC] using ih j
/-- 'string(b)' of an own slice of bytes. -/
theorem conv_bytes {w : World} {b0 n : Nat} {v : Value} {l : List UInt8} (h : Own w b0 1 v n (l.flatMap bytC)) (hn : n = l.length) : (convert 41 9 v).run Try.prog w = .ok (.string (B l)) w := by
  subst hn
  rcases h.2 with ⟨h0, rfl | ⟨g, off, rfl, hg⟩⟩ | ⟨g, off, c, rfl, h1, h2, h3, h4, h5, h6⟩
  · have : l = [] := List.eq_nil_of_length_eq_zero h0
    subst this
    exact Lib.run_convert_nil_bytes w _ _ _ _ Try.underlying41 Try.underlying5 Try.underlying9
  · have : l = [] := List.eq_nil_of_length_eq_zero h0
    subst this
    have := Lib.run_convert_whole (P := Try.prog) w _ _ _ Try.underlying41 Try.underlying5 Try.underlying9 g off (B []) (fun i hi => by rw [B_size] at hi; simp at hi) 0
    rw [B_size] at this
    exact this
  · have := Lib.run_convert_whole (P := Try.prog) w _ _ _ Try.underlying41 Try.underlying5 Try.underlying9 g off (B l) (fun i hi => by
      rw [B_size] at hi
      refine h6 i _ ?_
      rw [bytC_get, List.getElem?_eq_getElem hi]
      rfl) c
    rwa [B_size] at this
end Go.Proofs.Ytnecmpgcjgkheaa.Pat
