/-
  The walks of layer 30 (hist) without Find, and of its reference, as plain functions of lists of texts. Conditions: few and short enough texts (2^20).
-/
import Derived.Test.YteojepadhonbiaaStr
namespace Go.Proofs.Yteojepadhonbiaa
open Go.ChangeShapes Go.WideShapes Go.Deep Go.RowKit
/-- A byte's class. -/
def cls (n : Int) : Int :=
  if n = 32 ∨ n = 9 then 1 else if n = 10 then 2 else if 48 ≤ n ∧ n ≤ 57 then 6 else if (97 ≤ n ∧ n ≤ 122) ∨ (65 ≤ n ∧ n ≤ 90) ∨ n = 95 then 5
  else if n = 124 ∨ n = 38 ∨ n = 59 ∨ n = 60 ∨ n = 62 ∨ n = 40 ∨ n = 41 then 3 else if n = 92 ∨ n = 39 ∨ n = 34 ∨ n = 96 ∨ n = 36 then 4 else 0
def ClsPost (n : Int) (w : World) (e : Ending) (w' : World) : Prop := e = .returned (.int .i64 (cls n)) ∧ w = w'
theorem cls_ways (n : Int) (w : World) : Calls Try.prog 112 #[.int .u8 n] w (ClsPost n w) := by
  go_enter Try.func112, Try.ntmps112
  go_wp2
  all_goals
    go_ret
    refine ⟨?_, rfl⟩
    simp only [beq_iff_eq, beq_eq_false_iff_ne, ne_eq] at *
    refine congrArg (fun q => Ending.returned (Value.int IntKind.i64 q)) (?_ : _ = cls n)
    unfold cls
    repeat (first | rw [if_pos (by omega)] | rw [if_neg (by omega)])
theorem cls_any (n : Int) (w : World) : Calls Try.prog 112 #[.int .u8 n] w fun e w' => e = .returned (.int .i64 (cls n)) ∧ w = w' := cls_ways n w
/-- A history in memory. -/
structure HistAt (w : World) (b0 hb : Nat) (lv : Value) (most : Int) (xs : List (List UInt8)) : Prop where
  lt : hb < w.heap.size
  ge : b0 ≤ hb
  c0 : w.cell? ⟨hb, 0, none⟩ = some (.int .i64 most)
  c1 : w.cell? ⟨hb, 1, none⟩ = some lv
  f0 : ∀ j, w.frozen? ⟨hb, j, none⟩ = false
  own : Own w b0 1 lv xs.length (xs.flatMap strC)
  ne : lv.ownBlock ≠ some hb
theorem HistAt.below {w w' : World} {b0 hb : Nat} {lv : Value} {most : Int} {xs : List (List UInt8)} (h : HistAt w b0 hb lv most xs) (hb' : Below w.heap.size w w') : HistAt w' b0 hb lv most xs :=
  ⟨Nat.lt_of_lt_of_le h.lt hb'.size, h.ge, (hb'.cell (p := ⟨hb, 0, none⟩) h.lt).trans h.c0, (hb'.cell (p := ⟨hb, 1, none⟩) h.lt).trans h.c1, fun j => (hb'.frozen (p := ⟨hb, j, none⟩) h.lt).trans (h.f0 j), h.own.below hb', h.ne⟩
/-- Whether a line is to be added. -/
def wantB (xs : List (List UInt8)) : List UInt8 → Bool
  | [] => false
  | c :: r => (c != 32 && c != 9) && !(xs.getLast? == some (c :: r))
theorem own_last {w : World} {b0 : Nat} {v : Value} {ys : List (List UInt8)} {y : List UInt8} (h : Own w b0 1 v (ys ++ [y]).length ((ys ++ [y]).flatMap strC)) :
    ∃ g off c, v = .slice (some ⟨g, off, none⟩) (ys.length + 1) c ∧ b0 ≤ g ∧ g < w.heap.size ∧ ys.length + 1 ≤ c ∧ c ≤ maxLen ∧ w.cell? ⟨g, off + ys.length, none⟩ = some (.string (B y)) := by
  rcases h.2 with ⟨h0, _⟩ | ⟨g, off, c, rfl, g1, g2, g3, g4, g5, g6⟩
  · simp at h0
  · refine ⟨g, off, c, by simp, g1, g2, by simpa using g3, g4, g6 _ _ ?_⟩
    rw [List.flatMap_append, List.getElem?_append_right (by rw [strC_flat]; exact Nat.le_refl _), strC_flat]
    simp [strC]
theorem wanted_any (w : World) (b0 hb : Nat) (lv : Value) (most : Int) (xs : List (List UInt8)) (line : List UInt8) (h : HistAt w b0 hb lv most xs) (hx : xs.length ≤ 1048576) :
    Calls Try.prog 83 #[.pointer (some ⟨hb, 0, none⟩), .string (B line)] w fun e w' => e = .returned (.bool (wantB xs line)) ∧ Below w.heap.size w w' := by
  obtain ⟨lt, ge, c0, c1, f0, own, ne⟩ := h
  cases line with
  | nil =>
    clear own c0 c1 f0
    go_enter Try.func83, Try.ntmps83
    go_wp2
    go_ret
    exact ⟨rfl, by (repeat (first | exact Below.refl _ _ | assumption | with_reducible refine below_alloc ?_ _ | with_reducible refine below_grow ?_ _ | with_reducible refine below_drewN ?_ _ | with_reducible refine below_drew ?_ | with_reducible refine below_setCell ?_ (by first | (dsimp only; omega) | (simp; done) | (simp; omega)) _))⟩
  | cons c r =>
    by_cases hc : c = 32 ∨ c = 9
    · have hw : wantB xs (c :: r) = false := by rcases hc with rfl | rfl <;> rfl
      have hcl : cls (c.toNat : Int) = 1 := by rcases hc with rfl | rfl <;> rfl
      rw [hw]
      have HC := Lib.hid fun w => show Calls Try.prog 112 #[.int .u8 (c.toNat : Int)] w fun e w' => e = .returned (.int .i64 1) ∧ w = w' from (cls_any _ w).mono fun e w' h => ⟨by rw [h.1, hcl], h.2⟩
      clear hw hcl hc own c0 c1 f0
      go_enter Try.func83, Try.ntmps83
      go_wp2_with (go_at_call 112; refine (HC.out _).mono ?_; rintro e w' ⟨rfl, rfl⟩)
      go_ret
      exact ⟨rfl, by (repeat (first | exact Below.refl _ _ | assumption | with_reducible refine below_alloc ?_ _ | with_reducible refine below_grow ?_ _ | with_reducible refine below_drewN ?_ _ | with_reducible refine below_drew ?_ | with_reducible refine below_setCell ?_ (by first | (dsimp only; omega) | (simp; done) | (simp; omega)) _))⟩
    · have hcl : (cls (c.toNat : Int) == 1) = false := by
        have h1 : ¬ c.toNat = 32 := fun h => hc (.inl (UInt8.toNat_inj.1 (by simpa using h)))
        have h2 : ¬ c.toNat = 9 := fun h => hc (.inr (UInt8.toNat_inj.1 (by simpa using h)))
        unfold cls
        rw [if_neg (by omega)]
        repeat' split
        all_goals rfl
      have hcw : (c != 32 && c != 9) = true := by simpa using hc
      have HC := Lib.hid fun w => cls_any (c.toNat : Int) w
      generalize cls (c.toNat : Int) = q at *
      clear hc
      rcases List.eq_nil_or_concat xs with rfl | ⟨ys, y, rfl⟩
      · have hw : wantB [] (c :: r) = true := by simp [wantB, hcw]
        rw [hw]
        have hl0 : lv = .slice none 0 0 ∨ ∃ A c, lv = .slice A 0 c := by
          rcases own.2 with ⟨_, h | ⟨g, off, h, _⟩⟩ | ⟨g, off, c', h, _⟩
          · exact .inl h
          · exact .inr ⟨_, _, h⟩
          · exact .inr ⟨_, _, h⟩
        obtain ⟨A, c', rfl⟩ : ∃ A c', lv = .slice A 0 c' := by
          rcases hl0 with h | h
          · exact ⟨none, 0, h⟩
          · exact h
        clear hw hcw own hl0
        go_enter Try.func83, Try.ntmps83
        go_wp2_with (go_at_call 112; refine (HC.out _).mono ?_; rintro e w' ⟨rfl, rfl⟩)
        go_quiet (fail)
        go_wp2
        go_ret
        exact ⟨rfl, by (repeat (first | exact Below.refl _ _ | assumption | with_reducible refine below_alloc ?_ _ | with_reducible refine below_grow ?_ _ | with_reducible refine below_drewN ?_ _ | with_reducible refine below_drew ?_ | with_reducible refine below_setCell ?_ (by first | (dsimp only; omega) | (simp; done) | (simp; omega)) _))⟩
      · rw [List.concat_eq_append] at *
        obtain ⟨g, off, c', rfl, g1, g2, g3, g4, g6⟩ := own_last own
        have hw : wantB (ys ++ [y]) (c :: r) = !(y == c :: r) := by simp [wantB, hcw]
        rw [hw]
        simp only [List.length_append, List.length_singleton] at hx
        unfold maxLen at g4
        have v1 : IntKind.i64.wrap (ys.length : Int) = (ys.length : Int) := IntWalk.i64_in _ (by omega)
        have v2 : ((ys.length : Int) + 1 == 0) = false := by rw [beq_eq_false_iff_ne]; omega
        clear hw hcw own
        go_enter Try.func83, Try.ntmps83
        go_wp2_with (go_at_call 112; refine (HC.out _).mono ?_; rintro e w' ⟨rfl, rfl⟩)
        go_quiet (fail)
        go_wp2
        go_ret
        exact ⟨rfl, by (repeat (first | exact Below.refl _ _ | assumption | with_reducible refine below_alloc ?_ _ | with_reducible refine below_grow ?_ _ | with_reducible refine below_drewN ?_ _ | with_reducible refine below_drew ?_ | with_reducible refine below_setCell ?_ (by first | (dsimp only; omega) | (simp; done) | (simp; omega)) _))⟩
end Go.Proofs.Yteojepadhonbiaa
