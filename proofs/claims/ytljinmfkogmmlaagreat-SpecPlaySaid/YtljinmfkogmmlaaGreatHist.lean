/-
  The walks of layer 30 (hist) without Find, and of its reference, as plain functions of lists of texts. Conditions: few and short enough texts (2^20).
-/
import Derived.Test.YtljinmfkogmmlaaGreatStr
namespace Go.Proofs.YtljinmfkogmmlaaGreat
open Go.ChangeShapes Go.WideShapes Go.Deep Go.RowKit
/-- A byte's class. -/
def cls (n : Int) : Int :=
  if n = 32 ∨ n = 9 then 1 else if n = 10 then 2 else if 48 ≤ n ∧ n ≤ 57 then 6 else if (97 ≤ n ∧ n ≤ 122) ∨ (65 ≤ n ∧ n ≤ 90) ∨ n = 95 then 5
  else if n = 124 ∨ n = 38 ∨ n = 59 ∨ n = 60 ∨ n = 62 ∨ n = 40 ∨ n = 41 then 3 else if n = 92 ∨ n = 39 ∨ n = 34 ∨ n = 96 ∨ n = 36 then 4 else 0
def ClsPost (n : Int) (w : World) (e : Ending) (w' : World) : Prop := e = .returned (.int .i64 (cls n)) ∧ w = w'
theorem cls_ways (n : Int) (w : World) : Calls Tryz.prog 68 #[.int .u8 n] w (ClsPost n w) := by
  go_enter Tryz.func68, Tryz.ntmps68
  go_wp2
  all_goals
    go_ret
    refine ⟨?_, rfl⟩
    simp only [beq_iff_eq, beq_eq_false_iff_ne, ne_eq] at *
    refine congrArg (fun q => Ending.returned (Value.int IntKind.i64 q)) (?_ : _ = cls n)
    unfold cls
    repeat (first | rw [if_pos (by omega)] | rw [if_neg (by omega)])
theorem cls_any (n : Int) (w : World) : Calls Tryz.prog 68 #[.int .u8 n] w fun e w' => e = .returned (.int .i64 (cls n)) ∧ w = w' := cls_ways n w
/-- A history in memory. -/
structure HistAt (w : World) (b0 hb : Nat) (lv : Value) (most : Int) (xs : List (List UInt8)) : Prop where
  lt : hb < w.heap.size
  ge : b0 ≤ hb
  c0 : w.cell? ⟨hb, 0, none⟩ = some (.int .i64 most)
  c1 : w.cell? ⟨hb, 1, none⟩ = some lv
  f0 : ∀ j, w.frozen? ⟨hb, j, none⟩ = false
  own : Own w b0 1 lv xs.length (xs.flatMap strC)
  ne : lv.ownBlock ≠ some hb
theorem HistAt.below {w w' : World} {b0 hb : Nat} {lv : Value} {most : Int} {xs : List (List UInt8)} (h : HistAt w b0 hb lv most xs) (hb' : Below w.heap.size w w') : HistAt w' b0 hb lv most xs :=
  ⟨Nat.lt_of_lt_of_le h.lt hb'.size, h.ge, (hb'.cell (p := ⟨hb, 0, none⟩) h.lt).trans h.c0, (hb'.cell (p := ⟨hb, 1, none⟩) h.lt).trans h.c1, fun j => (hb'.frozen (p := ⟨hb, j, none⟩) h.lt).trans (h.f0 j), h.own.below hb', h.ne⟩
end Go.Proofs.YtljinmfkogmmlaaGreat
