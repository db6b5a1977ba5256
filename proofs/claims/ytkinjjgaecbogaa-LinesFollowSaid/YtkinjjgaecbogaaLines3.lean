/-
  The walks of layer 3 (lines): slices.BinarySearch, and the index's functions. Conditions: at most 2^40 lines, places of at most 2^41.
-/
import Derived.Test.YtkinjjgaecbogaaLines2
namespace Go.Proofs.Ytkinjjgaecbogaa
open Go.ChangeShapes Go.WideShapes Go.Deep Go.RowKit
set_option maxRecDepth 100000
theorem isNaN1_any (a : Int) (w : World) : Calls Try.prog 113 #[.int .i64 a] w fun e w' => e = .returned (.bool false) ∧ w = w' := by
  go_enter Try.func113, Try.ntmps113
  go_wp2
  go_ret
  exact ⟨by simp, rfl⟩
theorem isNaN2_any (a : Int) (w : World) : Calls Try.prog 108 #[.int .i64 a] w fun e w' => e = .returned (.bool false) ∧ w = w' := by
  go_enter Try.func108, Try.ntmps108
  go_wp2
  go_ret
  exact ⟨by simp, rfl⟩
theorem less_any (a b : Int) (w : World) : Calls Try.prog 107 #[.int .i64 a, .int .i64 b] w fun e w' => e = .returned (.bool (decide (a < b))) ∧ w = w' := by
  go_enter Try.func107, Try.ntmps107
  go_wp2_with (go_at_call 113; refine (isNaN1_any _ _).mono ?_; rintro e w' ⟨rfl, rfl⟩)
  go_ret
  exact ⟨rfl, rfl⟩
/-- How many are less. -/
def cntLt (es : List Int) (t : Int) : Nat := (es.filter fun e => decide (e < t)).length
theorem cntLt_at (es : List Int) (t : Int) (i : Nat) (hi : i ≤ es.length) (h1 : ∀ k e, k < i → es[k]? = some e → e < t) (h2 : ∀ k e, i ≤ k → es[k]? = some e → t ≤ e) : cntLt es t = i := by
  unfold cntLt
  rw [← List.take_append_drop i es, List.filter_append, List.filter_eq_self.2, List.filter_eq_nil_iff.2]
  · simp; omega
  · intro e he
    obtain ⟨k, hk⟩ := List.mem_iff_getElem?.1 he
    rw [List.getElem?_drop] at hk
    have := h2 _ e (by omega) hk
    simp; omega
  · intro e he
    obtain ⟨k, hk⟩ := List.mem_iff_getElem?.1 he
    rw [List.getElem?_take] at hk
    split at hk
    · have := h1 _ e (by assumption) hk
      simp; omega
    · cases hk
theorem rising {es : List Int} (hs : es.Pairwise (· < ·)) {i j : Nat} {a b : Int} (hij : i < j) (ha : es[i]? = some a) (hb : es[j]? = some b) : a < b := by
  obtain ⟨h1, rfl⟩ := List.getElem?_eq_some_iff.1 ha
  obtain ⟨h2, rfl⟩ := List.getElem?_eq_some_iff.1 hb
  exact List.pairwise_iff_getElem.1 hs i j h1 h2 hij
theorem Own.getI {w : World} {b0 g off n c : Nat} {es : List Int} (h : Own w b0 1 (.slice (some ⟨g, off, none⟩) n c) n (es.flatMap intC)) {k : Nat} {e : Int} (hk : es[k]? = some e) : w.cell? ⟨g, off + k, none⟩ = some (.int .i64 e) := by
  have hl := h.1
  rw [intC_flat, Nat.mul_one] at hl
  have hkl := (List.getElem?_eq_some_iff.1 hk).1
  rcases h.2 with ⟨h0, _⟩ | ⟨g', off', c', e', h1, h2, h3, h4, h5, h6⟩
  · omega
  · simp only [Value.slice.injEq, Option.some.injEq, Addr.mk.injEq, and_true, true_and] at e'
    obtain ⟨⟨rfl, rfl⟩, rfl⟩ := e'
    refine h6 k _ ?_
    have : ∀ (es : List Int) (k : Nat), (es.flatMap intC)[k]? = (es[k]?).map fun y => Value.int .i64 y := by
      intro es
      induction es with
      | nil => simp
      | cons y ys ih =>
        intro k
        cases k with
        | zero => simp [intC]
        | succ j => simpa [intC] using ih j
    rw [this, hk]; rfl
def SearchPost (es : List Int) (t : Int) (w : World) (e : Ending) (w' : World) : Prop := ∃ b, e = .returned (.tuple #[.int .i64 (cntLt es t), .bool b]) ∧ w = w'
set_option maxHeartbeats 1000000 in
theorem search_any (w : World) (b0 : Nat) (v : Value) (es : List Int) (t : Int) (n : Nat) (hn : n = es.length) (h : Own w b0 1 v n (es.flatMap intC)) (hs : es.Pairwise (· < ·)) (hl : n ≤ 1099511627776) :
    Calls Try.prog 98 #[v, .int .i64 t] w (SearchPost es t w) := by
  obtain ⟨A, c, rfl, hA⟩ : ∃ A c, v = .slice A n c ∧ (0 < n → ∃ g off, A = some ⟨g, off, none⟩) := by
    rcases h.2 with ⟨h0, rfl | ⟨g, off, rfl, hg⟩⟩ | ⟨g, off, c, e, h1, _⟩
    · exact ⟨_, _, by rw [h0], fun h => by omega⟩
    · exact ⟨_, _, by rw [h0], fun _ => ⟨_, _, rfl⟩⟩
    · exact ⟨_, _, e, fun _ => ⟨_, _, rfl⟩⟩
  have H := Lib.hid h
  have HA := Lib.hid hA
  have HN := Lib.hid hn
  have HS := Lib.hid hs
  clear h hA hn hs
  go_enter Try.func98, Try.ntmps98
  go_wp2
  go_loop [7, 8, 9] (fun i j _ => ∃ a b : Nat, a ≤ b ∧ b ≤ n ∧ i = .int .i64 a ∧ j = .int .i64 b ∧ Hid (∀ k e, k < a → es[k]? = some e → e < t) ∧ Hid (∀ k e, b ≤ k → es[k]? = some e → t ≤ e)) (fun i j _ => (intOf j).toNat - (intOf i).toNat)
  case atStart => exact ⟨0, n, by omega, by omega, rfl, rfl, (fun k e h => by omega), fun k e h1 h2 => by
    have := (List.getElem?_eq_some_iff.1 h2).1
    have := HN.out
    omega⟩
  case round =>
    obtain ⟨a, b, hab, hbn, rfl, rfl, H1, H2⟩ := hrel
    by_cases hlt : a < b
    · obtain ⟨g, off, rfl⟩ := HA.out (by omega)
      obtain ⟨e, he⟩ : ∃ e, es[(a + b) / 2]? = some e := ⟨_, List.getElem?_eq_getElem (by have := HN.out; omega)⟩
      have e0 := H.out.getI he
      have HE := Lib.hid he
      obtain ⟨m, hm⟩ : ∃ m, m = (a + b) / 2 := ⟨_, rfl⟩
      have hm1 : ((a : Int) + (b : Int)) / 2 = (m : Int) := by omega
      have hm2 : m < n := by omega
      have hm3 : a ≤ m := by omega
      have hm4 : m < b := by omega
      rw [← hm] at e0 HE
      clear he hm
      by_cases hc : e < t
      · have HC := Lib.hid hc
        go_wp2_with (go_at_call 107; refine (less_any _ _ _).mono ?_; rintro e w' ⟨rfl, rfl⟩)
        go_round
        case rel => exact ⟨m + 1, b, by omega, by omega, by go_num, rfl, (by
          intro k x hk hx
          rcases Nat.lt_or_ge k m with h | h
          · have := rising HS.out h hx HE.out; have := HC.out; omega
          · obtain rfl : k = m := by omega
            rw [HE.out] at hx; cases hx; exact HC.out), H2.out⟩
        case measure => simp [intOf]; omega
      · have hc' : decide (e < t) = false := no hc
        have HC := Lib.hid hc
        clear hc
        go_wp2_with (go_at_call 107; refine (less_any _ _ _).mono ?_; rintro e w' ⟨rfl, rfl⟩)
        go_round
        case rel => exact ⟨a, m, by omega, by omega, rfl, by first | rfl | go_num, H1.out, (by
          intro k x hk hx
          have := HC.out
          rcases Nat.lt_or_ge m k with h | h
          · have := rising HS.out h HE.out hx; omega
          · obtain rfl : k = m := by omega
            rw [HE.out] at hx; cases hx; omega)⟩
        case measure => simp [intOf]; omega
    · have hba : a = b := by omega
      subst hba
      have hcnt : cntLt es t = a := cntLt_at es t a (by have := HN.out; omega) H1.out H2.out
      have HCN := Lib.hid hcnt
      clear hcnt hlt hab
      by_cases han : a < n
      · obtain ⟨g, off, rfl⟩ := HA.out (by omega)
        obtain ⟨e, he⟩ : ∃ e, es[a]? = some e := ⟨_, List.getElem?_eq_getElem (by have := HN.out; omega)⟩
        have e0 := H.out.getI he
        clear he
        by_cases hc : e = t
        · subst hc
          go_wp2
          go_ret2
          exact ⟨true, by rw [HCN.out]; rfl, rfl⟩
        · have hc' : (e == t) = false := by simpa using hc
          clear hc
          go_wp2_with (go_at_call 108; refine (isNaN2_any _ _).mono ?_; rintro e w' ⟨rfl, rfl⟩)
          go_ret2
          exact ⟨false, by rw [HCN.out]; rfl, rfl⟩
      · have han' : decide ((a : Int) < (n : Int)) = false := no (by omega)
        go_wp2
        go_ret2
        exact ⟨false, by rw [HCN.out]; rfl, rfl⟩
/-- An index in memory. -/
structure IdxAt (w : World) (b0 xb : Nat) (lv : Value) (n : Nat) (es : List Int) : Prop where
  lt : xb < w.heap.size
  ge : b0 ≤ xb
  c0 : w.cell? ⟨xb, 0, none⟩ = some (.int .i64 n)
  c1 : w.cell? ⟨xb, 1, none⟩ = some lv
  f0 : ∀ j, w.frozen? ⟨xb, j, none⟩ = false
  own : Own w b0 1 lv es.length (es.flatMap intC)
  ne : lv.ownBlock ≠ some xb
  up : es.Pairwise (· < ·)
  lo : ∀ e ∈ es, 0 ≤ e ∧ e < n
theorem IdxAt.below {w w' : World} {b0 xb n : Nat} {lv : Value} {es : List Int} (h : IdxAt w b0 xb lv n es) (hb : Below w.heap.size w w') : IdxAt w' b0 xb lv n es :=
  ⟨Nat.lt_of_lt_of_le h.lt hb.size, h.ge, (hb.cell (p := ⟨xb, 0, none⟩) h.lt).trans h.c0, (hb.cell (p := ⟨xb, 1, none⟩) h.lt).trans h.c1, fun j => (hb.frozen (p := ⟨xb, j, none⟩) h.lt).trans (h.f0 j), h.own.below hb, h.ne, h.up, h.lo⟩
theorem count_any (w : World) (b0 xb n : Nat) (lv : Value) (es : List Int) (h : IdxAt w b0 xb lv n es) (hl : es.length ≤ 1099511627776) :
    Calls Try.prog 74 #[.pointer (some ⟨xb, 0, none⟩)] w fun e w' => e = .returned (.int .i64 ((es.length : Int) + 1)) ∧ w = w' := by
  obtain ⟨A, c, rfl, _⟩ := h.own.form0
  have c1 := h.c1
  clear h
  go_enter Try.func74, Try.ntmps74
  go_wp2
  go_ret
  exact ⟨rfl, rfl⟩
/-- A line's first place; the place behind its last byte. -/
def firstOf (es : List Int) : Nat → Int
  | 0 => 0
  | k + 1 => (es[k]?.getD 0) + 1
def lastOf (es : List Int) (n : Nat) (k : Nat) : Int := if k = es.length then n else es[k]?.getD 0
theorem first_any (w : World) (b0 xb n : Nat) (lv : Value) (es : List Int) (k : Nat) (h : IdxAt w b0 xb lv n es) (hl : es.length ≤ 1099511627776) (hk : k ≤ es.length) (hn : n ≤ 1099511627776) :
    Calls Try.prog 78 #[.pointer (some ⟨xb, 0, none⟩), .int .i64 k] w fun e w' => e = .returned (.int .i64 (firstOf es k)) ∧ w = w' := by
  obtain ⟨A, c, rfl, hA⟩ := h.own.form0
  have c1 := h.c1
  cases k with
  | zero =>
    clear h hA
    go_enter Try.func78, Try.ntmps78
    go_wp2
    go_ret
    exact ⟨rfl, rfl⟩
  | succ k =>
    obtain ⟨g, off, rfl⟩ := hA (by omega)
    obtain ⟨e, he⟩ : ∃ e, es[k]? = some e := ⟨_, List.getElem?_eq_getElem (by omega)⟩
    have e0 := h.own.getI he
    have hb := h.lo e (List.mem_of_getElem? he)
    have hE : firstOf es (k + 1) = e + 1 := by simp [firstOf, he]
    have HE := Lib.hid hE
    clear h hA he hE
    go_enter Try.func78, Try.ntmps78
    go_wp2
    go_ret
    exact ⟨by rw [HE.out]; rfl, rfl⟩
theorem last_any (w : World) (b0 xb n : Nat) (lv : Value) (es : List Int) (k : Nat) (h : IdxAt w b0 xb lv n es) (hl : es.length ≤ 1099511627776) (hk : k ≤ es.length) (hn : n ≤ 1099511627776) :
    Calls Try.prog 79 #[.pointer (some ⟨xb, 0, none⟩), .int .i64 k] w fun e w' => e = .returned (.int .i64 (lastOf es n k)) ∧ w = w' := by
  obtain ⟨A, c, rfl, hA⟩ := h.own.form0
  have c0 := h.c0
  have c1 := h.c1
  by_cases hkl : k = es.length
  · have hE : lastOf es n k = n := by simp [lastOf, hkl]
    have HE := Lib.hid hE
    have hkt : ((k : Int) == (es.length : Int)) = true := by rw [beq_iff_eq]; omega
    clear h hA hE hkl
    go_enter Try.func79, Try.ntmps79
    go_wp2
    go_ret
    exact ⟨by rw [HE.out]; rfl, rfl⟩
  · obtain ⟨g, off, rfl⟩ := hA (by omega)
    obtain ⟨e, he⟩ : ∃ e, es[k]? = some e := ⟨_, List.getElem?_eq_getElem (by omega)⟩
    have e0 := h.own.getI he
    have hE : lastOf es n k = e := by simp [lastOf, hkl, he]
    have HE := Lib.hid hE
    have hkt : ((k : Int) == (es.length : Int)) = false := by rw [beq_eq_false_iff_ne]; omega
    have hkt2 : k < es.length := by omega
    clear h hA he hE hkl
    go_enter Try.func79, Try.ntmps79
    go_wp2
    go_ret
    exact ⟨by rw [HE.out]; rfl, rfl⟩
theorem ahead_any (w : World) (b0 xb n : Nat) (lv : Value) (es : List Int) (t : Int) (h : IdxAt w b0 xb lv n es) (hl : es.length ≤ 1099511627776) :
    Calls Try.prog 80 #[.pointer (some ⟨xb, 0, none⟩), .int .i64 t] w fun e w' => e = .returned (.int .i64 (cntLt es t)) ∧ w = w' := by
  have HS := Lib.hid (search_any w b0 lv es t es.length rfl h.own h.up hl)
  obtain ⟨A, c, rfl, _⟩ := h.own.form0
  have c1 := h.c1
  clear h
  go_enter Try.func80, Try.ntmps80
  go_wp2_with (go_at_call 98; refine HS.out.mono ?_; rintro e w' ⟨b, rfl, rfl⟩)
  go_ret
  exact ⟨rfl, rfl⟩
theorem cntLt_le (es : List Int) (t : Int) : cntLt es t ≤ es.length := List.length_filter_le _ _
theorem firstOf_bd {w : World} {b0 xb n : Nat} {lv : Value} {es : List Int} (h : IdxAt w b0 xb lv n es) (k : Nat) : 0 ≤ firstOf es k ∧ firstOf es k ≤ n + 1 := by
  cases k with
  | zero => simp [firstOf]; omega
  | succ k =>
    simp only [firstOf]
    cases he : es[k]? with
    | none => simp; omega
    | some e =>
      have := h.lo e (List.mem_of_getElem? he)
      simp; omega
theorem where_any (w : World) (b0 xb n : Nat) (lv : Value) (es : List Int) (t : Int) (h : IdxAt w b0 xb lv n es) (hl : es.length ≤ 1099511627776) (hn : n ≤ 1099511627776) :
    Calls Try.prog 45 #[.pointer (some ⟨xb, 0, none⟩), .int .i64 t] w fun e w' => e = .returned (if t < 0 ∨ (n : Int) < t then .tuple #[.int .i64 0, .int .i64 0, .int .i64 1] else .tuple #[.int .i64 (cntLt es t), .int .i64 (t - firstOf es (cntLt es t)), .int .i64 0]) ∧ w = w' := by
  have c0 := h.c0
  by_cases h1 : t < 0
  · rw [if_pos (.inl h1)]
    clear h
    go_enter Try.func45, Try.ntmps45
    go_wp2
    go_ret3
    exact ⟨rfl, rfl⟩
  by_cases h2 : (n : Int) < t
  · rw [if_pos (.inr h2)]
    have h1' := no h1
    clear h
    go_enter Try.func45, Try.ntmps45
    go_wp2
    go_ret3
    exact ⟨rfl, rfl⟩
  rw [if_neg (by omega)]
  have h1' := no h1
  have h2' := no h2
  have hc := cntLt_le es t
  have hf := firstOf_bd h (cntLt es t)
  have HA := Lib.hid (ahead_any w b0 xb n lv es t h hl)
  have HF := Lib.hid (first_any w b0 xb n lv es (cntLt es t) h hl hc hn)
  clear h
  generalize cntLt es t = q at *
  go_enter Try.func45, Try.ntmps45
  go_wp2_with (first | (go_at_call 80; refine (HA.out).mono ?_; rintro e w' ⟨rfl, rfl⟩) | (go_at_call 78; refine (HF.out).mono ?_; rintro e w' ⟨rfl, rfl⟩))
  go_ret3
  exact ⟨rfl, rfl⟩
/-- A line's places, if there is the line. -/
def spanV (es : List Int) (n : Nat) (t : Int) : Int × Int × Int := if t < 0 ∨ (es.length : Int) < t then (0, 0, 1) else (firstOf es t.toNat, lastOf es n t.toNat, 0)
theorem span_any (w : World) (b0 xb n : Nat) (lv : Value) (es : List Int) (t : Int) (h : IdxAt w b0 xb lv n es) (hl : es.length ≤ 1099511627776) (hn : n ≤ 1099511627776) :
    Calls Try.prog 43 #[.pointer (some ⟨xb, 0, none⟩), .int .i64 t] w fun e w' => e = .returned (.tuple #[.int .i64 (spanV es n t).1, .int .i64 (spanV es n t).2.1, .int .i64 (spanV es n t).2.2]) ∧ w = w' := by
  have HC := Lib.hid (count_any w b0 xb n lv es h hl)
  unfold spanV
  by_cases h1 : t < 0
  · rw [if_pos (.inl h1)]
    clear h
    go_enter Try.func43, Try.ntmps43
    go_wp2
    go_ret3
    exact ⟨rfl, rfl⟩
  by_cases h2 : (es.length : Int) < t
  · rw [if_pos (.inr h2)]
    have h1' := no h1
    have h2' : (es.length : Int) + 1 ≤ t := by omega
    clear h
    go_enter Try.func43, Try.ntmps43
    go_wp2_with (go_at_call 74; refine (HC.out).mono ?_; rintro e w' ⟨rfl, rfl⟩)
    go_ret3
    exact ⟨rfl, rfl⟩
  rw [if_neg (by omega)]
  have h1' := no h1
  obtain ⟨k, rfl⟩ := Int.eq_ofNat_of_zero_le (show 0 ≤ t by omega)
  have hk : k ≤ es.length := by omega
  have h2' : decide ((es.length : Int) + 1 ≤ (k : Int)) = false := no (by omega)
  rw [Int.toNat_natCast]
  have HF := Lib.hid (first_any w b0 xb n lv es k h hl hk hn)
  have HL := Lib.hid (last_any w b0 xb n lv es k h hl hk hn)
  clear h
  generalize firstOf es k = a at *
  generalize lastOf es n k = b at *
  go_enter Try.func43, Try.ntmps43
  go_wp2_with (first | (go_at_call 74; refine (HC.out).mono ?_; rintro e w' ⟨rfl, rfl⟩) | (go_at_call 78; refine (HF.out).mono ?_; rintro e w' ⟨rfl, rfl⟩) | (go_at_call 79; refine (HL.out).mono ?_; rintro e w' ⟨rfl, rfl⟩))
  go_ret3
  exact ⟨rfl, rfl⟩
end Go.Proofs.Ytkinjjgaecbogaa
