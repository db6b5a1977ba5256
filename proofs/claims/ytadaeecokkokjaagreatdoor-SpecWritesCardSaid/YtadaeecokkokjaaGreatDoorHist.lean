/-
  The walks of layer 30 (hist) without Find, and of its reference, as plain functions of lists of texts. Conditions: few and short enough texts (2^20).
-/
import Derived.Test.YtadaeecokkokjaaGreatDoorIter
import Derived.Test.YtadaeecokkokjaaGreatDoorSl
import Derived.HandedShaped
import Derived.Shelf.Vars
import Derived.Test.YtadaeecokkokjaaGreatDoorProg
import Derived.Test.YtadaeecokkokjaaGreatDoorOwn
import Derived.Test.YtadaeecokkokjaaGreatDoorTail
set_option linter.unusedSimpArgs false
set_option linter.unusedVariables false
/-
  Slices of texts: slices.Clone, and whether two are the same. Conditions: at most 2^40 texts.
-/
/-
  The library's variable MaxLen holds some number: a condition that new blocks keep. No program in sight.
-/
namespace Go.Proofs.YtadaeecokkokjaaGreatDoor.Pat
open Go.ChangeShapes Go.WideShapes Go.Deep Go.RowKit
/-- The library's variable MaxLen holds some number. -/
def MaxL (w : World) : Prop := ∃ m, w.cell? ⟨0, 0, none⟩ = some (.int .i64 m)
theorem MaxL.lt {w : World} (h : MaxL w) : 0 < w.heap.size := by obtain ⟨m, hm⟩ := h; exact World.block_lt_of_cell? w _ hm
theorem MaxL.below {w W : World} (h : MaxL w) (hb : Below w.heap.size w W) : MaxL W := by
  have := h.lt
  obtain ⟨m, hm⟩ := h
  exact ⟨m, (hb.cell (p := ⟨0, 0, none⟩) this).trans hm⟩
theorem MaxL.keeps {F : Nat → Prop} {w W : World} (h : MaxL w) (hk : Keeps F w W) (hF : ¬ F 0) : MaxL W := by
  have := h.lt
  obtain ⟨m, hm⟩ := h
  exact ⟨m, (World.cell?_of_block (w := w) (hk.block 0 this hF)).trans hm⟩
theorem MaxL.keepG {G : Nat → Prop} {w W : World} (h : MaxL w) (hk : KeepG G w W) (h0 : G 0) : MaxL W := by
  obtain ⟨m, hm⟩ := h
  exact ⟨m, (hk.cell h0).trans hm⟩
end Go.Proofs.YtadaeecokkokjaaGreatDoor.Pat
/-
  The library's variable MaxLen holds some number in each world that has the program's shape.
-/
namespace Go.Proofs.YtadaeecokkokjaaGreatDoor
open Go.ChangeShapes Go.WideShapes Go.ChangeAt Go.RowKit
set_option maxRecDepth 100000
theorem maxL_of {w : World} (h : w.ShapedOpen Tryz.prog) : Pat.MaxL w :=
  cell_of_shapedOpen_int (t := 3) (zero := #[.int .i64 0]) h (of_decide_eq_true (by kernel_rfl)) (by kernel_rfl) rfl (by kernel_rfl) (by kernel_rfl) Tryz.underlying3
end Go.Proofs.YtadaeecokkokjaaGreatDoor
namespace Go.Proofs.YtadaeecokkokjaaGreatDoor
open Go.ChangeShapes Go.WideShapes Go.Deep Go.RowKit
/-- The cells of a text. -/
def strC (s : List UInt8) : List Value := [.string (B s)]
theorem strC_len {xs : List (List UInt8)} : ∀ x ∈ xs, (strC x).length = 1 := fun _ _ => rfl
theorem flat_get (ys : List (List UInt8)) (j : Nat) : (ys.flatMap strC)[j]? = (ys[j]?).map fun y => Value.string (B y) := by
  induction ys generalizing j with
  | nil => simp
  | cons y ys ih =>
    cases j with
    | zero => simp [strC]
    | succ j => simpa [strC] using ih j
theorem info_str : (Tryz.prog.info? 9).map (fun i => (i.zero, i.size, i.bytes)) = some (some (.string ByteArray.empty), 1, 16) := by kernel_rfl
end Go.Proofs.YtadaeecokkokjaaGreatDoor
namespace Go.Proofs.YtadaeecokkokjaaGreatDoor
open Go.ChangeShapes Go.WideShapes Go.Deep Go.RowKit
/-- A byte's class. -/
def cls (n : Int) : Int :=
  if n = 32 ∨ n = 9 then 1 else if n = 10 then 2 else if 48 ≤ n ∧ n ≤ 57 then 6 else if (97 ≤ n ∧ n ≤ 122) ∨ (65 ≤ n ∧ n ≤ 90) ∨ n = 95 then 5
  else if n = 124 ∨ n = 38 ∨ n = 59 ∨ n = 60 ∨ n = 62 ∨ n = 40 ∨ n = 41 then 3 else if n = 92 ∨ n = 39 ∨ n = 34 ∨ n = 96 ∨ n = 36 then 4 else 0
def ClsPost (n : Int) (w : World) (e : Ending) (w' : World) : Prop := e = .returned (.int .i64 (cls n)) ∧ w = w'
theorem cls_ways (n : Int) (w : World) : Calls Tryz.prog 54 #[.int .u8 n] w (ClsPost n w) := by
  go_enter Tryz.func54, Tryz.ntmps54
  go_wp2
  all_goals
    go_ret
    refine ⟨?_, rfl⟩
    simp only [beq_iff_eq, beq_eq_false_iff_ne, ne_eq] at *
    refine congrArg (fun q => Ending.returned (Value.int IntKind.i64 q)) (?_ : _ = cls n)
    unfold cls
    repeat (first | rw [if_pos (by omega)] | rw [if_neg (by omega)])
theorem cls_any (n : Int) (w : World) : Calls Tryz.prog 54 #[.int .u8 n] w fun e w' => e = .returned (.int .i64 (cls n)) ∧ w = w' := cls_ways n w
/-- A history in memory. -/
structure HistAt (w : World) (b0 hb : Nat) (lv : Value) (most : Int) (xs : List (List UInt8)) : Prop where
  lt : hb < w.heap.size
  ge : b0 ≤ hb
  c0 : w.cell? ⟨hb, 0, none⟩ = some (.int .i64 most)
  c1 : w.cell? ⟨hb, 1, none⟩ = some lv
  f0 : ∀ j, w.frozen? ⟨hb, j, none⟩ = false
  own : Own w b0 1 lv xs.length (xs.flatMap strC)
  ne : lv.ownBlock ≠ some hb
theorem HistAt.below {w w' : World} {b0 hb : Nat} {lv : Value} {most : Int} {xs : List (List UInt8)} (h : HistAt w b0 hb lv most xs) (hb' : Below w.heap.size w w') : HistAt w' b0 hb lv most xs :=
  ⟨Nat.lt_of_lt_of_le h.lt hb'.size, h.ge, (hb'.cell (p := ⟨hb, 0, none⟩) h.lt).trans h.c0, (hb'.cell (p := ⟨hb, 1, none⟩) h.lt).trans h.c1, fun j => (hb'.frozen (p := ⟨hb, j, none⟩) h.lt).trans (h.f0 j), h.own.below hb', h.ne⟩
end Go.Proofs.YtadaeecokkokjaaGreatDoor
