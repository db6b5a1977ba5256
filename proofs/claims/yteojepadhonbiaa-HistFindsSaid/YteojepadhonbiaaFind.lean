/-
  The walks of layer 30 (hist), the finding: hist.is, and the reference's Begins, Is, Find. Conditions: texts of at most 2^30 bytes; the library's variable MaxLen holds some number.
-/
import Derived.Test.YteojepadhonbiaaPat19
import Derived.Test.YteojepadhonbiaaHist8
namespace Go.Proofs.Yteojepadhonbiaa
open Go.ChangeShapes Go.WideShapes Go.Deep Go.RowKit Pat
set_option maxRecDepth 100000
/-- Whether a line is as asked. -/
def isB (line text : List UInt8) (how : Int) : Bool :=
  if how == 1 then Lib.contains line text else if how == 2 then Lib.hasPrefix line text else (how == 3) && gm (parse text) line
theorem contains_b (s p : List UInt8) (w : World) (hs : s.length ≤ 1073741824) (hm : MaxL w) : Calls Try.prog 114 #[.string (B s), .string (B p)] w fun e w' => e = .returned (.bool (Lib.contains s p)) ∧ w = w' := by
  obtain ⟨m, hm⟩ := hm
  exact (Try.strings_Contains (B s) (B p) m w (by rw [B_size]; omega) hm).mono fun e w' ⟨he, hw⟩ => ⟨by rw [he, B_data, B_data], hw.symm⟩
theorem is_any (line text : List UInt8) (how : Int) (w : World) (hm : MaxL w) (hl : line.length ≤ 1073741824) (ht : text.length ≤ 1073741824) :
    Calls Try.prog 86 #[.string (B line), .string (B text), .int .i64 how] w fun e w' => e = .returned (.bool (isB line text how)) ∧ Below w.heap.size w w' := by
  have HC := Lib.hid (contains_b line text w hl hm)
  have HH := Lib.hid (hasPrefix_b line text w)
  have HMT := Lib.hid (match_all text line w hm ht hl)
  by_cases h1 : how = 1
  · subst h1
    go_enter Try.func86, Try.ntmps86
    go_wp2_with (go_at_call 114; refine HC.out.mono ?_; rintro e w' ⟨rfl, rfl⟩)
    go_ret
    exact ⟨rfl, Below.refl _ _⟩
  by_cases h2 : how = 2
  · subst h2
    go_enter Try.func86, Try.ntmps86
    go_wp2_with (go_at_call 63; refine HH.out.mono ?_; rintro e w' ⟨rfl, rfl⟩)
    go_ret
    exact ⟨rfl, Below.refl _ _⟩
  by_cases h3 : how = 3
  · subst h3
    go_enter Try.func86, Try.ntmps86
    go_wp2_with (go_at_call 35; refine HMT.out.mono ?_; rintro e w' ⟨rfl, hb⟩; have HB := Lib.hid hb; clear hb)
    go_ret
    exact ⟨rfl, HB.out⟩
  have e1 : (how == 1) = false := by simpa using h1
  have e2 : (how == 2) = false := by simpa using h2
  have e3 : (how == 3) = false := by simpa using h3
  have HB := Lib.hid (show isB line text how = false by unfold isB; rw [e1, e2, e3]; rfl)
  clear h1 h2 h3
  go_enter Try.func86, Try.ntmps86
  go_wp2
  go_ret
  exact ⟨by rw [HB.out]; rfl, Below.refl _ _⟩
theorem pre_take (s p : List UInt8) (h : p.length ≤ s.length) : Lib.hasPrefix s p = (s.take p.length == p) := by
  unfold Lib.hasPrefix
  rw [Bool.eq_iff_iff, List.isPrefixOf_iff_prefix, beq_iff_eq, List.prefix_iff_eq_take, eq_comm]
theorem begins_any (s p : List UInt8) (w : World) : Calls Try.prog 23 #[.string (B s), .string (B p)] w fun e w' => e = .returned (.bool (Lib.hasPrefix s p)) ∧ w = w' := by
  by_cases h : p.length ≤ s.length
  · have HP := Lib.hid (pre_take s p h)
    have h2 : (p.length : Int) ≤ (s.length : Int) := by omega
    go_enter Try.func23, Try.ntmps23
    go_wp2
    go_ret
    exact ⟨by rw [HP.out]; rfl, rfl⟩
  · have HP : Hid (Lib.hasPrefix s p = false) := by
      show _ = _
      unfold Lib.hasPrefix
      rw [Bool.eq_false_iff]
      intro hp
      exact h ((List.isPrefixOf_iff_prefix.1 hp).length_le)
    have h2 := no h
    clear h
    go_enter Try.func23, Try.ntmps23
    go_wp2
    go_ret
    exact ⟨by rw [HP.out]; rfl, rfl⟩
theorem contains_no {s p : List UInt8} (h : ∀ i ≤ s.length, Lib.hasPrefix (s.drop i) p = false) : Lib.contains s p = false := by
  unfold Lib.contains
  rw [Lib.index_none fun j hj => h j hj]
  decide
theorem contains_yes {s p : List UInt8} {i : Nat} (hi : i ≤ s.length) (h : Lib.hasPrefix (s.drop i) p = true) : Lib.contains s p = true := by
  unfold Lib.contains
  rcases Lib.index_spec s p with ⟨_, h2⟩ | ⟨j, e, _⟩
  · have := h2 i hi
    unfold Lib.occAt at this
    unfold Lib.hasPrefix at h
    rw [h] at this
    cases this
  · rw [e]
    exact decide_eq_true (by omega)
theorem refIs_any (line text : List UInt8) (how : Int) (w : World) (hl : line.length ≤ 1073741824) (ht : text.length ≤ 1073741824) :
    Calls Try.prog 87 #[.string (B line), .string (B text), .int .i64 how] w fun e w' => e = .returned (.bool (isB line text how)) ∧ Below w.heap.size w w' := by
  have HBG := Lib.hid fun s w => begins_any s text w
  by_cases h1 : how = 1
  · subst h1
    go_enter Try.func87, Try.ntmps87
    go_wp2
    go_loopw [7] (fun i w' => ∃ k : Nat, k ≤ line.length + 1 ∧ i = .int .i64 k ∧ w' = w ∧ Hid (∀ j < k, Lib.hasPrefix (line.drop j) text = false)) (fun i _ => line.length + 1 - (intOf i).toNat)
    case atStart => exact ⟨0, by omega, rfl, rfl, fun j hj => absurd hj (Nat.not_lt_zero _)⟩
    case round =>
      obtain ⟨k, hk, rfl, rfl, HN⟩ := hrel
      by_cases hlt : k ≤ line.length
      · have k0 : (0 : Int) ≤ (k : Int) := by omega
        have k1 : (k : Int) ≤ (line.length : Int) := by omega
        have HBK := Lib.hid (HBG.out (line.drop k))
        cases hb : Lib.hasPrefix (line.drop k) text with
        | true =>
          have HC := Lib.hid (contains_yes hlt hb)
          rw [hb] at HBK
          clear hb
          go_wp2_with (go_at_call 23; refine (HBK.out _).mono ?_; rintro e w' ⟨rfl, rfl⟩)
          go_ret
          exact ⟨by show _ = Ending.returned (Value.bool (Lib.contains line text)); rw [HC.out]; rfl, Below.refl _ _⟩
        | false =>
          have HN2 : Hid (∀ j < k + 1, Lib.hasPrefix (line.drop j) text = false) := fun j hj => by
            rcases Nat.lt_or_ge j k with h | h
            · exact HN.out j h
            · rw [show j = k by omega]; exact hb
          rw [hb] at HBK
          clear hb
          go_wp2_with (go_at_call 23; refine (HBK.out _).mono ?_; rintro e w' ⟨rfl, rfl⟩)
          go_roundw
          case rel => exact ⟨k + 1, by omega, by go_num, trivial, HN2.out⟩
          case measure => simp [intOf]; omega
      · have HC := Lib.hid (contains_no fun i hi => HN.out i (by omega))
        have d0 := no hlt
        clear hlt
        go_wp2
        go_ret
        exact ⟨by show _ = Ending.returned (Value.bool (Lib.contains line text)); rw [HC.out]; rfl, Below.refl _ _⟩
  have e1 : (how == 1) = false := by simpa using h1
  by_cases h2 : how = 2
  · subst h2
    go_enter Try.func87, Try.ntmps87
    go_wp2_with (go_at_call 23; refine (HBG.out _ _).mono ?_; rintro e w' ⟨rfl, rfl⟩)
    go_ret
    exact ⟨rfl, Below.refl _ _⟩
  have e2 : (how == 2) = false := by simpa using h2
  by_cases h3 : how = 3
  · subst h3
    have hpl := parse_len text
    have HR := Lib.hid fun w => parse_ref text w ht
    have HMR := Lib.hid fun v w hv => match_ref (parse text) line v w hv (by omega) hl
    clear hpl
    go_enter Try.func87, Try.ntmps87
    go_wp2_with (first | (go_at_call 34; refine (HR.out _).mono ?_; rintro e w1 ⟨u, rfl, hu, hb⟩; have HU := Lib.hid hu; have HB1 := Lib.hid hb; clear hu hb) | (go_at_call 36; refine (HMR.out _ _ HU.out).mono ?_; rintro e w3 ⟨rfl, hb⟩; have HB3 := Lib.hid hb; clear hb))
    go_ret
    exact ⟨rfl, below_then HB1.out HB3.out⟩
  have e3 : (how == 3) = false := by simpa using h3
  have HB := Lib.hid (show isB line text how = false by unfold isB; rw [e1, e2, e3]; rfl)
  clear h1 h2 h3
  go_enter Try.func87, Try.ntmps87
  go_wp2
  go_ret
  exact ⟨by rw [HB.out]; rfl, Below.refl _ _⟩
/-- The last number below k at which f holds, or -1. -/
def lastN (f : Nat → Bool) : Nat → Int
  | 0 => -1
  | k + 1 => if f k = true then (k : Int) else lastN f k
/-- Whether the k-th line is as asked. -/
def isAt (xs : List (List UInt8)) (text : List UInt8) (how : Int) (k : Nat) : Bool := isB ((xs[k]?).getD []) text how
theorem refFind_any (xs : List (List UInt8)) (v : Value) (text : List UInt8) (before how : Int) (w : World) (hv : Sl w strC 1 v xs) (hx : xs.length ≤ 1048576) (hl : ∀ x ∈ xs, x.length ≤ 1073741824) (ht : text.length ≤ 1073741824) :
    Calls Try.prog 56 #[v, .string (B text), .int .i64 before, .int .i64 how] w fun e w' => e = .returned (.int .i64 (lastN (isAt xs text how) (min xs.length before.toNat))) ∧ Below w.heap.size w w' := by
  have HLL := Lib.hid hl
  have HV := Lib.hid hv
  obtain ⟨A, c, rfl, hc1, hc2, hn, hA⟩ := hv
  have HA := Lib.hid hA
  clear hA hn hl
  go_enter Try.func56, Try.ntmps56
  go_wp2
  go_loopw [9, 10] (fun n i w' => ∃ k : Nat, k ≤ xs.length ∧ k ≤ before.toNat ∧ i = .int .i64 k ∧ n = .int .i64 (lastN (isAt xs text how) k) ∧ Hid (Below w.heap.size w w')) (fun _ i _ => xs.length - (intOf i).toNat)
  case atStart => exact ⟨0, by omega, by omega, rfl, rfl, Below.refl _ _⟩
  case round =>
    obtain ⟨k, hk, hk2, rfl, rfl, HB⟩ := hrel
    by_cases hlt : k < xs.length
    rotate_left
    · have HM := Lib.hid (show min xs.length before.toNat = k by omega)
      have d0 := no hlt
      clear hlt hk2
      go_wp2
      go_ret
      exact ⟨by rw [HM.out]; rfl, HB.out⟩
    by_cases hbf : (k : Int) < before
    rotate_left
    · have HM := Lib.hid (show min xs.length before.toNat = k by omega)
      have d0 := no hbf
      clear hbf hk2
      go_wp2
      go_ret
      exact ⟨by rw [HM.out]; rfl, HB.out⟩
    obtain ⟨line, hxk⟩ := get_some hlt
    obtain ⟨b, off, rfl, e0⟩ := Sl.getS HA.out HB.out k line hxk
    have HIS := Lib.hid fun w => refIs_any line text how w (HLL.out line (List.mem_of_getElem? hxk)) ht
    have hfk : isAt xs text how k = isB line text how := by unfold isAt; rw [hxk]; rfl
    have HF := Lib.hid (show lastN (isAt xs text how) (k + 1) = if isB line text how = true then (k : Int) else lastN (isAt xs text how) k by rw [← hfk]; rfl)
    have k0 : (0 : Int) ≤ (k : Int) := by omega
    have k1 : (k : Int) < (xs.length : Int) := by omega
    have hk3 : k + 1 ≤ before.toNat := by omega
    clear hfk hxk
    cases hb : isB line text how with
    | true =>
      rw [hb] at HIS HF
      go_wp2_with (go_at_call 87; refine (HIS.out _).mono ?_; rintro e w3 ⟨rfl, hb3⟩; have HB3 := Lib.hid (below_then HB.out hb3); clear hb3)
      go_roundw
      case rel => exact ⟨k + 1, by omega, hk3, by go_num, by rw [HF.out]; rfl, HB3.out⟩
      case measure => simp [intOf]; omega
    | false =>
      rw [hb] at HIS HF
      go_wp2_with (go_at_call 87; refine (HIS.out _).mono ?_; rintro e w3 ⟨rfl, hb3⟩; have HB3 := Lib.hid (below_then HB.out hb3); clear hb3)
      go_roundw
      case rel => exact ⟨k + 1, by omega, hk3, by go_num, by rw [HF.out]; rfl, HB3.out⟩
      case measure => simp [intOf]; omega
end Go.Proofs.Yteojepadhonbiaa
