/-
  The walk of the law FieldsBetween: it returns true, whatever its arguments. Conditions: none (arguments as the row reads them).
-/
import Derived.Test.YtkinjjgaecbogaaFields8
namespace Go.Proofs.Ytkinjjgaecbogaa.fieldsBetween
open Go.ChangeShapes Go.WideShapes Go.ChangeAt Go.RowKit
set_option maxRecDepth 100000
def boolC (b : Bool) : List Value := [.bool b]
theorem bool_cells : Try.prog.cellsOf 4 = 1 := by kernel_rfl
theorem bool_dec {H : Type} {enc : TypeId × Value → H} {w : World} {fuel : Nat} {cs : List Value} {d : DataW H × List MemPlace}
    (h : DataW.trod enc Try.prog w 0 (fun _ => true) true fuel 4 cs = some d) : ∃ x : Bool, cs = boolC x ∧ True := by
  obtain ⟨q, e, _⟩ := DataW.trod_bool Try.underlying4 h
  exact ⟨q, e, trivial⟩
/-- The text of bools: a colon, or a letter. -/
def colons (l : List Bool) : List UInt8 := l.map fun b => if b then 58 else 97
def cnt (l : List Bool) : Nat := l.count true
def stepB (m : Mk) (b : Bool) : Mk := stepM [58] m (byteU ⟨true, false, []⟩ (if b then 58 else 97))
theorem fold_b : ∀ (l : List Bool) (m : Mk), m.mark = false → (l.foldl stepB m).mark = false ∧ (l.foldl stepB m).l.length = m.l.length + cnt l ∧ (l.foldl stepB m).begun = (match l.getLast? with | none => m.begun | some b => !b)
  | [], m, h => ⟨h, by simp [cnt], rfl⟩
  | b :: l, m, h => by
    have hs : (stepB m b).mark = false ∧ (stepB m b).l.length = m.l.length + cnt [b] ∧ (stepB m b).begun = !b := by
      cases b
      · simp [stepB, stepM, byteU, addM, cnt]
      · cases hb : m.begun <;> simp [stepB, stepM, byteU, sepM, endM, whiteB, cnt, h, hb]
    obtain ⟨h1, h2, h3⟩ := fold_b l (stepB m b) hs.1
    refine ⟨h1, ?_, ?_⟩
    · rw [List.foldl_cons, h2, hs.2.1]; simp [cnt, List.count_cons]; omega
    · rw [List.foldl_cons, h3, hs.2.2]
      cases l with
      | nil => rfl
      | cons c l =>
        rw [List.getLast?_cons_cons]
        cases hq : (c :: l).getLast? with
        | none => simp at hq
        | some b => rfl
theorem between (l : List Bool) : (splitF [⟨true, false, colons l⟩] [58]).length = cnt l + (if l.getLast? = some false then 1 else 0) := by
  have hf : foldM [58] (unitsOf [⟨true, false, colons l⟩]) = l.foldl stepB mk0 := by
    simp only [foldM, unitsOf, List.flatMap_cons, List.flatMap_nil, List.append_nil, unitsP, headU]
    simp only [Bool.false_eq_true, and_false, if_false, List.nil_append, colons, List.map_map, List.foldl_map]
    rfl
  obtain ⟨h1, h2, h3⟩ := fold_b l mk0 rfl
  have h2' : (l.foldl stepB mk0).l.length = cnt l := by rw [h2]; simp [mk0]
  unfold splitF outM
  rw [hf]
  cases hl : l.getLast? with
  | none =>
    rw [hl] at h3
    simp only at h3
    rw [h3]
    simp [mk0] at h2' ⊢
    exact h2'
  | some b =>
    rw [hl] at h3
    simp only at h3
    rw [h3]
    cases b
    · simp [endM, h2']
    · simp [h2']
theorem cnt_snoc (l : List Bool) (b : Bool) : cnt (l ++ [b]) = cnt l + (if b then 1 else 0) := by cases b <;> simp [cnt]
theorem colons_snoc (l : List Bool) (b : Bool) : colons (l ++ [b]) = colons l ++ [if b then 58 else 97] := by simp [colons]
theorem cnt_le (l : List Bool) : cnt l ≤ l.length := List.count_le_length
set_option maxHeartbeats 3200000 in
theorem walk {H : Type} (enc : TypeId × Value → H) (w : World) (base : Nat) {v0 : Value} {d0 : DataW H} {p0 : List MemPlace}
    (h0 : DataW.Trod enc Try.prog w 0 (fun _ => true) true 55 v0 d0 p0) (k0 : Value.okWide Try.prog w .any base 55 v0) :
    Calls Try.prog 8 #[v0] w fun e w' => e = .returned (.bool true) ∧ Below w.heap.size w w' := by
  obtain ⟨l, hv, hok, hl⟩ := open_sl boolC (fun _ => True) Try.underlying55 bool_cells (by omega) bool_dec h0 k0
  clear h0 k0 hok
  obtain ⟨A, c, rfl, hc1, hc2, hn, hA⟩ := hv
  have HA := Lib.hid hA
  clear hA hn
  by_cases hl6 : 60 < l.length
  · go_enter Try.func8, Try.ntmps8
    go_wp2_with (first | (go_at_call 28; refine (awake26_any _).mono ?_; rintro e w' ⟨rfl, hb⟩; obtain ⟨g, rfl⟩ := to_grow hb; clear hb))
    go_ret
    exact ⟨rfl, by (repeat (first | exact Below.refl _ _ | assumption | with_reducible refine below_alloc ?_ _ | with_reducible refine below_grow ?_ _ | with_reducible refine below_drewN ?_ _ | with_reducible refine below_drew ?_ | with_reducible refine below_setCell ?_ (by first | (dsimp only; omega) | (simp; done) | (simp; omega)) _))⟩
  have hl60 : l.length ≤ 60 := by omega
  have hd := no (show ¬ (60 : Int) < (l.length : Int) by omega)
  clear hl6
  go_enter Try.func8, Try.ntmps8
  go_wp2_with (first | (go_at_call 28; refine (awake26_any _).mono ?_; rintro e w' ⟨rfl, hb⟩; obtain ⟨g, rfl⟩ := to_grow hb; clear hb))
  clear hd
  go_loopw [3, 4, 5] (fun s n i w' => ∃ k : Nat, k ≤ l.length ∧ i = .int .i64 k ∧ s = .string (B (colons (l.take k))) ∧ n = .int .i64 (cnt (l.take k)) ∧ w' = grow w g) (fun _ _ i _ => l.length - (intOf i).toNat)
  case atStart => exact ⟨0, by omega, rfl, rfl, rfl, rfl⟩
  case round =>
    obtain ⟨k, hk, rfl, rfl, rfl, rfl⟩ := hrel
    have hcl : (colons (l.take k)).length = k := by simp [colons]; omega
    by_cases hlt : k < l.length
    · obtain ⟨b, off, rfl, hb, hc⟩ := HA.out (by omega)
      have e0 : w.cell? ⟨b, off + k, none⟩ = some (.bool l[k]) := by have := hc k _ (List.getElem?_eq_getElem hlt) 0 _ rfl; simpa using this
      clear hc
      haveI : Old w b := ⟨hb⟩
      have HT := Lib.hid (show l.take (k + 1) = l.take k ++ [l[k]] by rw [List.take_succ_eq_append_getElem hlt])
      have hcn := cnt_le (l.take k)
      rw [List.length_take] at hcn
      generalize l[k] = x at *
      have HT1 := Lib.hid (show colons (l.take (k + 1)) = colons (l.take k) ++ [if x then 58 else 97] by rw [HT.out, colons_snoc])
      have HT2 := Lib.hid (show cnt (l.take (k + 1)) = cnt (l.take k) + (if x then 1 else 0) by rw [HT.out, cnt_snoc])
      generalize colons (l.take k) = t at *
      generalize cnt (l.take k) = cn at *
      cases x
      all_goals
        go_wp2
        go_roundw
        case rel => exact ⟨k + 1, by omega, by go_num, by rw [HT1.out]; rfl, by rw [HT2.out]; go_num, trivial⟩
        case measure => simp [intOf]; omega
    · have hk' : k = l.length := by omega
      subst hk'
      rw [List.take_length] at *
      have HB := Lib.hid (between l)
      have hcn := cnt_le l
      have HS : ∀ N, (splitF [⟨true, false, colons l⟩] [58]).length = N → ∀ W : World, Hid (Calls Try.prog 31 #[.slice (some ⟨W.heap.size, 0, none⟩) 1 1, .string (B [58])] (W.alloc (.cells #[.bool true, .bool false, .string (B (colons l))] 51)) fun e w' => ∃ A c, e = .returned (.slice A N c) ∧ Below (W.alloc (.cells #[.bool true, .bool false, .string (B (colons l))] 51)).heap.size (W.alloc (.cells #[.bool true, .bool false, .string (B (colons l))] 51)) w') := by
        intro N hN W
        refine (split_any _ [⟨true, false, colons l⟩] [58] _ (sl_piece W ⟨true, false, colons l⟩ 51) (by simp) (by simp [hcl]; omega) (by simp [unitsOf, unitsP, headU]; omega)).mono ?_
        rintro e w' ⟨v, rfl, ho, hb⟩
        obtain ⟨A, c, rfl, _⟩ := ho.form0
        exact ⟨A, c, by rw [hN], hb⟩
      have HS := Lib.hid HS
      generalize hcol : colons l = t at *
      rcases hl0 : l.getLast? with _ | x
      · have hnil : l = [] := by simpa using hl0
        subst hnil
        have HS := Lib.hid (HS.out 0 (by have := HB.out; rw [hl0] at this; simpa [cnt] using this))
        clear hl0 hcl hcn
        have hz : cnt [] = 0 := rfl
        rw [hz]
        go_wp2_with (go_at_call 31; refine (HS.out _).out.mono ?_; rintro e w1 ⟨A1, c1, rfl, hb⟩; have HBB := Lib.hid hb; clear hb)
        go_ret
        exact ⟨rfl, below_then (by (repeat (first | exact Below.refl _ _ | assumption | with_reducible refine below_alloc ?_ _ | with_reducible refine below_grow ?_ _ | with_reducible refine below_drewN ?_ _ | with_reducible refine below_drew ?_ | with_reducible refine below_setCell ?_ (by first | (dsimp only; omega) | (simp; done) | (simp; omega)) _))) HBB.out⟩
      · have hpos : 0 < l.length := by cases l with
          | nil => simp at hl0
          | cons _ _ => simp
        obtain ⟨b, off, rfl, hb, hc⟩ := HA.out hpos
        have hlast : l[l.length - 1]? = some x := by rw [← List.getLast?_eq_getElem?]; exact hl0
        have e0 : w.cell? ⟨b, off + (l.length - 1), none⟩ = some (.bool x) := by have := hc _ _ hlast 0 _ rfl; simpa using this
        clear hc hlast
        haveI : Old w b := ⟨hb⟩
        obtain ⟨n, hn⟩ : ∃ n, l.length = n + 1 := ⟨l.length - 1, by omega⟩
        rw [hn] at e0
        simp only [Nat.add_sub_cancel] at e0
        have HB := HB.out
        rw [hl0] at HB
        generalize cnt l = cn at *
        rw [hn] at hcn hlt hl60 hc1 hcl ⊢
        clear hn hl0 hpos
        cases x
        · have HS := Lib.hid (HS.out (cn + 1) (by simpa using HB))
          go_wp2_with (go_at_call 31; refine (HS.out _).out.mono ?_; rintro e w1 ⟨A1, c1, rfl, hb⟩; have HBB := Lib.hid hb; clear hb)
          go_ret
          exact ⟨rfl, below_then (by (repeat (first | exact Below.refl _ _ | assumption | with_reducible refine below_alloc ?_ _ | with_reducible refine below_grow ?_ _ | with_reducible refine below_drewN ?_ _ | with_reducible refine below_drew ?_ | with_reducible refine below_setCell ?_ (by first | (dsimp only; omega) | (simp; done) | (simp; omega)) _))) HBB.out⟩
        · have HS := Lib.hid (HS.out cn (by simpa using HB))
          go_wp2_with (go_at_call 31; refine (HS.out _).out.mono ?_; rintro e w1 ⟨A1, c1, rfl, hb⟩; have HBB := Lib.hid hb; clear hb)
          go_ret
          exact ⟨rfl, below_then (by (repeat (first | exact Below.refl _ _ | assumption | with_reducible refine below_alloc ?_ _ | with_reducible refine below_grow ?_ _ | with_reducible refine below_drewN ?_ _ | with_reducible refine below_drew ?_ | with_reducible refine below_setCell ?_ (by first | (dsimp only; omega) | (simp; done) | (simp; omega)) _))) HBB.out⟩
end Go.Proofs.Ytkinjjgaecbogaa.fieldsBetween
