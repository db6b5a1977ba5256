/-
  The walks of layer 16 (pattern): the member of a set, by the reference. Conditions: texts of at most 2^30 bytes.
-/
import Derived.Test.YtnecmpgcjgkheaaPat5
import Derived.Test.YtnecmpgcjgkheaaFilPlain
set_option linter.unusedSimpArgs false
set_option linter.unusedVariables false
namespace Go.Proofs.Ytnecmpgcjgkheaa.Pat
open Go.ChangeShapes Go.WideShapes Go.Deep Go.RowKit
set_option maxRecDepth 100000
theorem hasPrefix_b (s p : List UInt8) (w : World) : Calls Try.prog 24 #[.string (B s), .string (B p)] w fun e w' => e = .returned (.bool (Lib.hasPrefix s p)) ∧ w = w' :=
  (Try.strings_HasPrefix (B s) (B p) w).mono fun e w' ⟨he, hw⟩ => ⟨by rw [he, B_data, B_data], hw.symm⟩
theorem index_b (s p : List UInt8) (w : World) (hs : s.length ≤ 1073741824) (hm : MaxL w) : Calls Try.prog 96 #[.string (B s), .string (B p)] w fun e w' => e = .returned (.int .i64 (Lib.index s p)) ∧ w = w' := by
  obtain ⟨m, hm⟩ := hm
  exact (Try.strings_Index (B s) (B p) m w (by rw [B_size]; omega) hm).mono fun e w' ⟨he, hw⟩ => ⟨by rw [he, B_data, B_data], hw.symm⟩
theorem prefix2 (p : List UInt8) (n : Nat) : Lib.hasPrefix (p.drop n) [91, 58] = ((p.take (n + 2)).drop n == [91, 58]) := by
  unfold Lib.hasPrefix
  rw [sub_take, show n + 2 - n = 2 by omega]
  generalize p.drop n = q
  match q with
  | [] => rfl
  | [a] => simp [List.isPrefixOf]
  | a :: b :: t => simp [List.isPrefixOf, Bool.beq_comm (a := (91 : UInt8)), Bool.beq_comm (a := (58 : UInt8)), eq_comm]
def clsEnd (p : List UInt8) (n : Nat) : Nat := match clsAt p n with
  | none => n
  | some nm => n + nm.length + 4
def clsSet (p : List UInt8) (n : Nat) (f : UInt8 → Bool) : UInt8 → Bool := match clsAt p n with
  | none => f
  | some nm => fun c => f c || inCls nm c
theorem clsE_some {p : List UInt8} {n : Nat} {nm : List UInt8} (f : UInt8 → Bool) (h : clsAt p n = some nm) : clsEnd p n = n + nm.length + 4 ∧ clsSet p n f = fun c => f c || inCls nm c := by unfold clsEnd clsSet; rw [h]; exact ⟨rfl, rfl⟩
theorem clsE_none {p : List UInt8} {n : Nat} (f : UInt8 → Bool) (h : clsAt p n = none) : clsEnd p n = n ∧ clsSet p n f = f := by unfold clsEnd clsSet; rw [h]; exact ⟨rfl, rfl⟩
def ClsPost (p : List UInt8) (n b : Nat) (f : UInt8 → Bool) (w : World) (e : Ending) (w' : World) : Prop := e = .returned (.int .i64 (clsEnd p n)) ∧ SetAt w' b (clsSet p n f) ∧ Keeps (fun k => k = b) w w'
theorem ClsPost.none_ {p : List UInt8} {n b : Nat} {f : UInt8 → Bool} {w : World} (hs : SetAt w b f) (h : clsAt p n = none) : ClsPost p n b f w (.returned (.int .i64 n)) w := by
  obtain ⟨h1, h2⟩ := clsE_none f h
  exact ⟨by rw [h1], by rw [h2]; exact hs, Keeps.refl _ _⟩
/-- The bytes below k of a class, added. -/
def upto (nm : List UInt8) (k : Nat) (f : UInt8 → Bool) : UInt8 → Bool := fun c => f c || (decide (c.toNat < k) && inCls nm c)
theorem upto_zero (nm : List UInt8) (f : UInt8 → Bool) : upto nm 0 f = f := by funext c; simp [upto]
theorem upto_all (nm : List UInt8) (f : UInt8 → Bool) : upto nm 256 f = fun c => f c || inCls nm c := by
  funext c
  have := c.toNat_lt
  simp only [upto, decide_eq_true (show c.toNat < 256 by omega), Bool.true_and]
theorem byte_k {k : Nat} (h : k < 256) (c : UInt8) : c = UInt8.ofNat k ↔ c.toNat = k := by
  constructor
  · intro e; subst e; simp; omega
  · intro e; subst e; simp
theorem upto_yes {nm : List UInt8} {k : Nat} (f : UInt8 → Bool) (hk : k < 256) (h : inCls nm (UInt8.ofNat k) = true) : (fun c => upto nm k f c || c == UInt8.ofNat k) = upto nm (k + 1) f := by
  funext c
  simp only [upto]
  by_cases e : c = UInt8.ofNat k
  · have e2 := (byte_k hk c).1 e
    have h' : inCls nm c = true := by rw [e]; exact h
    rw [decide_eq_true (show c.toNat < k + 1 by omega), h', e]; simp
  · have e2 : c.toNat ≠ k := fun h => e ((byte_k hk c).2 h)
    have e3 : (c == UInt8.ofNat k) = false := by simpa using e
    rw [e3, Bool.or_false]
    by_cases h1 : c.toNat < k
    · rw [decide_eq_true h1, decide_eq_true (show c.toNat < k + 1 by omega)]
    · rw [decide_eq_false h1, decide_eq_false (show ¬ c.toNat < k + 1 by omega)]
theorem upto_no {nm : List UInt8} {k : Nat} (f : UInt8 → Bool) (hk : k < 256) (h : inCls nm (UInt8.ofNat k) = false) : upto nm k f = upto nm (k + 1) f := by
  funext c
  simp only [upto]
  by_cases e : c = UInt8.ofNat k
  · rw [← e] at h
    rw [h]; simp
  · have e2 : c.toNat ≠ k := fun h => e ((byte_k hk c).2 h)
    by_cases h1 : c.toNat < k
    · rw [decide_eq_true h1, decide_eq_true (show c.toNat < k + 1 by omega)]
    · rw [decide_eq_false h1, decide_eq_false (show ¬ c.toNat < k + 1 by omega)]
set_option maxHeartbeats 3200000 in
theorem cls_any (p : List UInt8) (n b : Nat) (f : UInt8 → Bool) (w : World) (hs : SetAt w b f) (hm : MaxL w) (hb : b ≠ 0) (hp : p.length ≤ 1073741824) (hn : n ≤ p.length) :
    Calls Try.prog 93 #[.pointer (some ⟨b, 0, none⟩), .string (B p), .int .i64 n] w (ClsPost p n b f w) := by
  have HS := Lib.hid hs
  have HM := Lib.hid hm
  have i0 : (0 : Int) ≤ (n : Int) := by omega
  have i1 : (n : Int) ≤ (p.length : Int) := by omega
  clear hs hm
  cases hh : ((p.take (n + 2)).drop n == [91, 58]) with
  | false =>
    have HP := Lib.hid fun w => hasPrefix_b (p.drop n) [91, 58] w
    rw [prefix2, hh] at HP
    have HA := Lib.hid (clsAt_head (p := p) (n := n) (by simpa using hh))
    clear hh
    go_enter Try.func93, Try.ntmps93
    go_wp2_with (go_at_call 24; refine (HP.out _).mono ?_; rintro e w' ⟨rfl, rfl⟩)
    go_ret
    exact ClsPost.none_ HS.out HA.out
  | true =>
    have HP := Lib.hid fun w => hasPrefix_b (p.drop n) [91, 58] w
    rw [prefix2, hh] at HP
    have hh2 : (p.take (n + 2)).drop n = [91, 58] := by simpa using hh
    have hl : n + 2 ≤ p.length := by have := congrArg List.length hh2; simp at this; omega
    have HH := Lib.hid hh2
    have HX := Lib.hid fun w => index_b (p.drop (n + 2)) [58, 93] w (by simp; omega)
    clear hh hh2
    have i2 : (n : Int) + 2 ≤ (p.length : Int) := by omega
    by_cases hi : Lib.index (p.drop (n + 2)) [58, 93] < 0
    · have HA := Lib.hid (clsAt_noidx hi)
      generalize Lib.index (p.drop (n + 2)) [58, 93] = x at *
      go_enter Try.func93, Try.ntmps93
      go_wp2_with (first | (go_at_call 24; refine (HP.out _).mono ?_; rintro e w' ⟨rfl, rfl⟩) | (go_at_call 96; refine (HX.out _ HM.out).mono ?_; rintro e w' ⟨rfl, rfl⟩))
      go_ret
      exact ClsPost.none_ HS.out HA.out
    · obtain ⟨k, hk⟩ : ∃ k : Nat, Lib.index (p.drop (n + 2)) [58, 93] = k := ⟨(Lib.index (p.drop (n + 2)) [58, 93]).toNat, by omega⟩
      have hr := Lib.index_room (p.drop (n + 2)) [58, 93] (by omega)
      rw [hk] at hr
      have hl2 : n + k + 4 ≤ p.length := by simp at hr; omega
      have HK := Lib.hid hk
      rw [hk] at HX
      have d0 := no (show ¬ (k : Int) < 0 by omega)
      have i3 : (n : Int) + 2 + k ≤ (p.length : Int) := by omega
      have i4 : (n : Int) + 2 ≤ (n : Int) + 2 + k := by omega
      have i5 : (0 : Int) ≤ (k : Int) := by omega
      have HIS : Hid (∀ w, Calls Try.prog 97 #[.string (B (nmK p n k)), .int .u8 0] w fun e w' => e = .returned (.tuple #[.bool (inCls (nmK p n k) 0), .bool (known (nmK p n k))]) ∧ w = w') := fun w => is_any (nmK p n k) 0 w
      unfold nmK at HIS
      clear hi hk hr
      cases hkn : known (nmK p n k) with
      | false =>
        unfold nmK at hkn
        rw [hkn] at HIS
        have HA := Lib.hid (clsAt_unknown HK.out hkn)
        clear hkn
        go_enter Try.func93, Try.ntmps93
        go_wp2_with (first | (go_at_call 24; refine (HP.out _).mono ?_; rintro e w' ⟨rfl, rfl⟩) | (go_at_call 96; refine (HX.out _ HM.out).mono ?_; rintro e w' ⟨rfl, rfl⟩) | (go_at_call 97; refine (HIS.out _).mono ?_; rintro e w' ⟨rfl, rfl⟩))
        go_ret
        exact ClsPost.none_ HS.out HA.out
      | true =>
        have HA := Lib.hid (clsAt_idx HH.out HK.out hkn)
        have HL := Lib.hid (nmK_len hl2)
        unfold nmK at hkn HA HL
        rw [hkn] at HIS
        have HKN := Lib.hid hkn
        clear hkn
        go_enter Try.func93, Try.ntmps93
        go_wp2_with (first | (go_at_call 24; refine (HP.out _).mono ?_; rintro e w' ⟨rfl, rfl⟩) | (go_at_call 96; refine (HX.out _ HM.out).mono ?_; rintro e w' ⟨rfl, rfl⟩) | (go_at_call 97; refine (HIS.out _).mono ?_; rintro e w' ⟨rfl, rfl⟩))
        generalize (p.take (n + 2 + k)).drop (n + 2) = nm at *
        go_loopw [44] (fun i w' => ∃ j : Nat, j ≤ 256 ∧ i = .int .i64 j ∧ Hid (SetAt w' b (upto nm j f)) ∧ Hid (Keeps (fun k => k = b) w w')) (fun i _ => 256 - (intOf i).toNat)
        case atStart => exact ⟨0, by omega, rfl, by show SetAt _ _ _; rw [upto_zero]; exact HS.out, Keeps.refl _ _⟩
        case round =>
          obtain ⟨j, hj, rfl, HSJ, HKJ⟩ := hrel
          by_cases hlt : j < 256
          · have hw := wrapb j hlt
            have HIJ := Lib.hid fun w => is_any nm (UInt8.ofNat j) w
            have HAD := Lib.hid fun w hs => add_any (upto nm j f) (UInt8.ofNat j) b w hs
            cases hx : inCls nm (UInt8.ofNat j) with
            | true =>
              have HE := Lib.hid (upto_yes f hlt hx)
              rw [hx] at HIJ
              clear hx
              go_wp2_with (first | (go_at_call 97; refine (HIJ.out _).mono ?_; rintro e w' ⟨rfl, rfl⟩) | (go_at_call 95; refine (HAD.out _ HSJ.out).mono ?_; rintro e w2 ⟨rfl, hs2, hk2⟩; have HS2 := Lib.hid hs2; have HK2 := Lib.hid (HKJ.out.trans hk2); clear hs2 hk2))
              go_roundw
              case rel => exact ⟨j + 1, by omega, by go_num, by show SetAt _ _ _; rw [← HE.out]; exact HS2.out, HK2.out⟩
              case measure => simp [intOf]; omega
            | false =>
              have HE := Lib.hid (upto_no f hlt hx)
              rw [hx] at HIJ
              clear hx
              go_wp2_with (go_at_call 97; refine (HIJ.out _).mono ?_; rintro e w' ⟨rfl, rfl⟩)
              go_roundw
              case rel => exact ⟨j + 1, by omega, by go_num, by show SetAt _ _ _; rw [← HE.out]; exact HSJ.out, HKJ.out⟩
              case measure => simp [intOf]; omega
          · have hj' : j = 256 := by omega
            have HJ := Lib.hid hj'
            clear hj'
            go_wp2
            go_ret
            obtain ⟨h1, h2⟩ := clsE_some f HA.out
            refine ⟨?_, ?_, HKJ.out⟩
            · rw [h1, HL.out]
              exact ret_i64 (by omega)
            · rw [h2, ← upto_all, ← HJ.out]; exact HSJ.out
end Go.Proofs.Ytnecmpgcjgkheaa.Pat
namespace Go.Proofs.Ytnecmpgcjgkheaa.Pat
open Go.ChangeShapes Go.WideShapes Go.Deep Go.RowKit
set_option maxRecDepth 100000
theorem memAt_cls {p : List UInt8} {n : Nat} {nm : List UInt8} (h : clsAt p n = some nm) : memAt p n = some (inCls nm, n + nm.length + 4) := by unfold memAt; rw [h]
theorem memAt_end1 {p : List UInt8} {n : Nat} (h : clsAt p n = none) (h1 : p.length ≤ esc p n) : memAt p n = none := by
  unfold memAt; rw [h]; dsimp only; rw [List.getElem?_eq_none h1]
theorem memAt_one {p : List UInt8} {n : Nat} {lo : UInt8} (h : clsAt p n = none) (h1 : p[esc p n]? = some lo) (h2 : dash p (esc p n + 1) = false) : memAt p n = some (fun b => b == lo, esc p n + 1) := by
  unfold memAt; rw [h]; dsimp only; rw [h1]; dsimp only; rw [h2]; rfl
theorem memAt_end2 {p : List UInt8} {n : Nat} {lo : UInt8} (h : clsAt p n = none) (h1 : p[esc p n]? = some lo) (h2 : dash p (esc p n + 1) = true) (h3 : p.length ≤ esc p (esc p n + 2)) : memAt p n = none := by
  unfold memAt; rw [h]; dsimp only; rw [h1]; dsimp only; rw [if_pos h2, List.getElem?_eq_none h3]
theorem memAt_two {p : List UInt8} {n : Nat} {lo hi : UInt8} (h : clsAt p n = none) (h1 : p[esc p n]? = some lo) (h2 : dash p (esc p n + 1) = true) (h3 : p[esc p (esc p n + 2)]? = some hi) : memAt p n = some (fun b => btw b lo.toNat hi.toNat, esc p (esc p n + 2) + 1) := by
  unfold memAt; rw [h]; dsimp only; rw [h1]; dsimp only; rw [if_pos h2, h3]
def bitI (x : Bool) : Int := if x = true then 1 else 0
def memB (p : List UInt8) (n : Nat) (b : UInt8) : Int := match memAt p n with
  | none => 0
  | some x => bitI (x.1 b)
def memE (p : List UInt8) (n : Nat) : Int := match memAt p n with
  | none => -1
  | some x => x.2
theorem mem_some {p : List UInt8} {n e : Nat} {g : UInt8 → Bool} (b : UInt8) (h : memAt p n = some (g, e)) : memB p n b = bitI (g b) ∧ memE p n = e := by unfold memB memE; rw [h]; exact ⟨rfl, rfl⟩
theorem mem_none {p : List UInt8} {n : Nat} (b : UInt8) (h : memAt p n = none) : memB p n b = 0 ∧ memE p n = -1 := by unfold memB memE; rw [h]; exact ⟨rfl, rfl⟩
def MemPost (p : List UInt8) (n : Nat) (b : UInt8) (w : World) (e : Ending) (w' : World) : Prop := e = .returned (.tuple #[.int .i64 (memB p n b), .int .i64 (memE p n)]) ∧ Below w.heap.size w w'
theorem MemPost.some_ {p : List UInt8} {n e : Nat} {b : UInt8} {w w' : World} {g : UInt8 → Bool} {x y : Int} (h : memAt p n = some (g, e)) (hx : x = bitI (g b)) (hy : y = e) (hb : Below w.heap.size w w') : MemPost p n b w (.returned (.tuple #[.int .i64 x, .int .i64 y])) w' := by
  obtain ⟨h1, h2⟩ := mem_some b h
  exact ⟨by rw [h1, h2, hx, hy], hb⟩
theorem MemPost.none_ {p : List UInt8} {n : Nat} {b : UInt8} {w w' : World} (h : memAt p n = none) (hb : Below w.heap.size w w') : MemPost p n b w (.returned (.tuple #[.int .i64 0, .int .i64 (-1)])) w' := by
  obtain ⟨h1, h2⟩ := mem_none b h
  exact ⟨by rw [h1, h2], hb⟩
end Go.Proofs.Ytnecmpgcjgkheaa.Pat
