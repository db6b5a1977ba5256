/-
  The walks of layer 19 (tables), on: New, find, Get. Conditions: names of at most 2^30 bytes, at most 2^20 entries.
-/
import Derived.Test.YtkllgikmlgponaaTab
namespace Go.Proofs.Ytkllgikmlgponaa.Tab
open Go.ChangeShapes Go.WideShapes Go.Deep Go.RowKit
set_option maxRecDepth 100000
/-- A table in memory. -/
structure TabAt (w : World) (b0 tb : Nat) (lv : Value) (kind : Int) (xs : List Ent) : Prop where
  lt : tb < w.heap.size
  ge : b0 ≤ tb
  c0 : w.cell? ⟨tb, 0, none⟩ = some (.int .i64 kind)
  c1 : w.cell? ⟨tb, 1, none⟩ = some lv
  f0 : ∀ j, w.frozen? ⟨tb, j, none⟩ = false
  own : Own w b0 2 lv xs.length (xs.flatMap Ent.cells)
  ne : lv.ownBlock ≠ some tb
  r : Rises xs
theorem TabAt.below {w w' : World} {b0 tb : Nat} {lv : Value} {kind : Int} {xs : List Ent} (h : TabAt w b0 tb lv kind xs) (hb' : Below w.heap.size w w') : TabAt w' b0 tb lv kind xs :=
  ⟨Nat.lt_of_lt_of_le h.lt hb'.size, h.ge, (hb'.cell (p := ⟨tb, 0, none⟩) h.lt).trans h.c0, (hb'.cell (p := ⟨tb, 1, none⟩) h.lt).trans h.c1, fun j => (hb'.frozen (p := ⟨tb, j, none⟩) h.lt).trans (h.f0 j), h.own.below hb', h.ne, h.r⟩
theorem new_ok (kind : Int) (w : World) (h1 : 1 ≤ kind) (h2 : kind ≤ 4) : Calls Try.prog 18 #[.int .i64 kind] w fun e w' => e = .returned (.pointer (some ⟨w.heap.size, 0, none⟩)) ∧ TabAt w' w.heap.size w.heap.size (.slice none 0 0) kind [] ∧ Below w.heap.size w w' := by
  have d1 := no (show ¬ kind < 1 by omega)
  have d2 := no (show ¬ 4 < kind by omega)
  go_enter Try.func18, Try.ntmps18
  go_wp2
  go_ret
  refine ⟨rfl, ⟨by simp, Nat.le_refl _, by go_simp, by go_simp, fun j => by simp [go_sem], Own.nil _ _ _, by simp [Value.ownBlock], List.Pairwise.nil⟩, by (repeat (first | exact Below.refl _ _ | assumption | with_reducible refine below_alloc ?_ _ | with_reducible refine below_grow ?_ _ | with_reducible refine below_drewN ?_ _ | with_reducible refine below_drew ?_ | with_reducible refine below_setCell ?_ (by first | (dsimp only; omega) | (simp; done) | (simp; omega)) _))⟩
theorem new_bad (kind : Int) (w : World) (h : kind < 1 ∨ 4 < kind) : Calls Try.prog 18 #[.int .i64 kind] w fun e w' => e = .returned (.pointer none) ∧ w = w' := by
  by_cases h1 : kind < 1
  · clear h
    go_enter Try.func18, Try.ntmps18
    go_wp2
    go_ret
    exact ⟨rfl, rfl⟩
  · have h2 : 4 < kind := by omega
    have d1 := no h1
    clear h h1
    go_enter Try.func18, Try.ntmps18
    go_wp2
    go_ret
    exact ⟨rfl, rfl⟩
/-- Whether a name is there. -/
def there (xs : List Ent) (s : List UInt8) : Bool := ((xs[place xs s]?).map Ent.name) == some s
theorem find_any (w : World) (b0 tb : Nat) (lv : Value) (kind : Int) (xs : List Ent) (s : List UInt8) (h : TabAt w b0 tb lv kind xs) (hx : xs.length ≤ 1048576) :
    Calls Try.prog 51 #[.pointer (some ⟨tb, 0, none⟩), .string (B s)] w fun e w' => e = .returned (.tuple #[.int .i64 (place xs s), .bool (there xs s)]) ∧ Below w.heap.size w w' := by
  obtain ⟨A, c, rfl, -⟩ := h.own.form0
  have HB := Lib.hid (bs_any w b0 A c xs s h.own hx h.r)
  have c1 := h.c1
  haveI : Old w tb := ⟨h.lt⟩
  clear h
  unfold BsP at HB
  unfold there
  generalize ((xs[place xs s]?).map Ent.name == some s) = q at *
  generalize place xs s = p at *
  go_enter Try.func51, Try.ntmps51
  go_wp2_with (go_at_call 74; refine HB.out.mono ?_; rintro e w3 ⟨rfl, hb3⟩; have HB3 := Lib.hid hb3; clear hb3)
  go_ret2
  exact ⟨rfl, HB3.out⟩
/-- A name's value. -/
def valOf (xs : List Ent) (s : List UInt8) : List UInt8 := if there xs s = true then ((xs[place xs s]?).map Ent.val).getD [] else []
theorem get_any (w : World) (b0 tb : Nat) (lv : Value) (kind : Int) (xs : List Ent) (s : List UInt8) (h : TabAt w b0 tb lv kind xs) (hx : xs.length ≤ 1048576) :
    Calls Try.prog 23 #[.pointer (some ⟨tb, 0, none⟩), .string (B s)] w fun e w' => e = .returned (.tuple #[.string (B (valOf xs s)), .bool (there xs s)]) ∧ Below w.heap.size w w' := by
  have HF := Lib.hid (find_any w b0 tb lv kind xs s h hx)
  cases ht : there xs s with
  | false =>
    have HV := Lib.hid (show valOf xs s = [] by unfold valOf; rw [ht, if_neg (by simp)])
    rw [ht] at HF
    clear ht h
    go_enter Try.func23, Try.ntmps23
    go_wp2_with (go_at_call 51; refine HF.out.mono ?_; rintro e w3 ⟨rfl, hb3⟩; have HB3 := Lib.hid hb3; clear hb3)
    go_ret2
    exact ⟨by rw [HV.out]; rfl, HB3.out⟩
  | true =>
    have hp : place xs s < xs.length := by
      rcases Nat.lt_or_ge (place xs s) xs.length with h | h
      · exact h
      · unfold there at ht; rw [List.getElem?_eq_none h] at ht; cases ht
    obtain ⟨x, hxm⟩ := get_some hp
    have HV := Lib.hid (show valOf xs s = x.val by unfold valOf; rw [ht, if_pos rfl, hxm]; rfl)
    obtain ⟨A, c, rfl, hA⟩ := h.own.form0
    obtain ⟨g, off, rfl⟩ := hA (by omega)
    have HO := Lib.hid fun w' (hb : Below w.heap.size w w') => own_ent (h.own.below hb) hxm
    have HC := Lib.hid fun w' (hb : Below w.heap.size w w') => (h.below hb).c1
    have hlt := h.lt
    have p0 : (0 : Int) ≤ (place xs s : Int) := by omega
    have p1 : (place xs s : Int) < (xs.length : Int) := by omega
    rw [ht] at HF
    clear ht h hxm hA
    generalize place xs s = p at *
    go_enter Try.func23, Try.ntmps23
    go_wp2_with (go_at_call 51; refine HF.out.mono ?_; rintro e w3 ⟨rfl, hb3⟩; have HB3 := Lib.hid hb3; have c1 := HC.out _ hb3; obtain ⟨e0, e1, hg⟩ := HO.out _ hb3; haveI : Old w3 g := ⟨hg⟩; haveI : Old w3 tb := ⟨Nat.lt_of_lt_of_le hlt hb3.size⟩; clear hb3)
    go_ret2
    exact ⟨by rw [HV.out]; rfl, HB3.out⟩
end Go.Proofs.Ytkllgikmlgponaa.Tab
