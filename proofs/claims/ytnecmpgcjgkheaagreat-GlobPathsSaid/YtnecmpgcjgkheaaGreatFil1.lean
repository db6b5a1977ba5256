/-
  The walks of layer 18 (files), the paths: names, and the iterator over the parts of a text. Conditions: texts of at most 2^30 bytes; the library's variable MaxLen holds some number.
-/
import Derived.Test.YtnecmpgcjgkheaaGreatProg
import Derived.Test.YtnecmpgcjgkheaaGreatOwn
import Derived.Lib.Strings
import Derived.Test.YtnecmpgcjgkheaaGreatStr
import Derived.Test.YtnecmpgcjgkheaaGreatShelfB
import Derived.Test.YtnecmpgcjgkheaaGreatTailIn
set_option linter.unusedSimpArgs false
set_option linter.unusedVariables false
namespace Go.Proofs.YtnecmpgcjgkheaaGreat
open Go.ChangeShapes Go.WideShapes Go.Deep Go.RowKit
set_option maxRecDepth 100000
end Go.Proofs.YtnecmpgcjgkheaaGreat
namespace Go.Proofs.YtnecmpgcjgkheaaGreat.Fil
open Go.ChangeShapes Go.WideShapes Go.Deep Go.RowKit Go.Shelf Pat
attribute [local go_sem] Oper.semAt_some
set_option maxRecDepth 100000
theorem has_byte (s : List UInt8) (c : UInt8) : decide (Lib.indexByte s c < 0) = !s.contains c := by
  have hge := Lib.indexByte_ge s c
  cases hc : s.contains c with
  | true =>
    rw [List.contains_iff_mem] at hc
    obtain ⟨k, hk⟩ := List.mem_iff_getElem?.1 hc
    rw [decide_eq_false_iff_not.2]
    · rfl
    · intro h
      exact Lib.indexByte_none (show Lib.indexByte s c = -1 by omega) k hk
  | false =>
    rw [decide_eq_true_iff.2]
    · rfl
    · rcases Int.lt_or_le (Lib.indexByte s c) 0 with h | h
      · exact h
      · obtain ⟨i, hi⟩ : ∃ i : Nat, Lib.indexByte s c = i := ⟨(Lib.indexByte s c).toNat, by omega⟩
        have := (Lib.indexByte_some hi).1
        have hm := List.mem_of_getElem? this
        rw [← List.contains_iff_mem, hc] at hm
        cases hm
theorem index_c (s : List UInt8) (c : UInt8) (w : World) : Calls Tryz.prog 65 #[.string (B s), .int .u8 c.toNat] w fun e w' => e = .returned (.int .i64 (Lib.indexByte s c)) ∧ w = w' :=
  (Tryz.strings_IndexByte (B s) c.toNat w).mono fun e w' ⟨he, hw⟩ => ⟨by rw [he, B_data]; simp, hw.symm⟩
theorem isName_any (s : List UInt8) (w : World) : Calls Tryz.prog 44 #[.string (B s)] w fun e w' => e = .returned (.bool (nameB s)) ∧ w = w' := by
  have HX1 := Lib.hid fun w => index_c s 47 w
  have HX2 := Lib.hid fun w => index_c s 0 w
  have h47 := has_byte s 47
  have h0 := has_byte s 0
  rw [show ((47 : UInt8).toNat : Int) = 47 by decide] at HX1
  rw [show ((0 : UInt8).toNat : Int) = 0 by decide] at HX2
  have HN := Lib.hid (show nameB s = (s != [] && s != [46] && s != [46, 46] && decide (s.length ≤ 255) && !s.contains 47 && !s.contains 0) from rfl)
  generalize Lib.indexByte s 47 = i1 at *
  generalize Lib.indexByte s 0 = i2 at *
  generalize s.contains 47 = c1 at *
  generalize s.contains 0 = c2 at *
  generalize nameB s = r at *
  by_cases n1 : s = []
  · subst n1
    go_enter Tryz.func44, Tryz.ntmps44
    go_wp2
    go_ret
    exact ⟨by rw [HN.out]; rfl, rfl⟩
  by_cases n2 : s = [46]
  · subst n2
    go_enter Tryz.func44, Tryz.ntmps44
    go_wp2
    go_ret
    exact ⟨by rw [HN.out]; rfl, rfl⟩
  by_cases n3 : s = [46, 46]
  · subst n3
    go_enter Tryz.func44, Tryz.ntmps44
    go_wp2
    go_ret
    exact ⟨by rw [HN.out]; rfl, rfl⟩
  have m1 : (s != []) = true := by simpa using n1
  have m2 : (s != [46]) = true := by simpa using n2
  have m3 : (s != [46, 46]) = true := by simpa using n3
  rw [m1, m2, m3] at HN
  by_cases n4 : s.length ≤ 255
  · have d4 : decide (s.length ≤ 255) = true := by simpa using n4
    have d5 : (s.length : Int) ≤ 255 := by omega
    rw [d4] at HN
    clear n4 d4 m1 m2 m3
    cases c1 with
    | true =>
      have h471 : decide (i1 < 0) = false := h47
      clear h47
      go_enter Tryz.func44, Tryz.ntmps44
      go_wp2_with (go_at_call 65; refine (HX1.out _).mono ?_; rintro e w' ⟨rfl, rfl⟩)
      go_ret
      exact ⟨by rw [HN.out]; rfl, rfl⟩
    | false =>
      have h471 : decide (i1 < 0) = true := h47
      have h472 : i1 < 0 := by simpa using h471
      clear h47
      go_enter Tryz.func44, Tryz.ntmps44
      go_wp2_with (first | (go_at_call 65; (with_reducible refine (HX1.out _).mono ?_); rintro e w' ⟨rfl, rfl⟩) | (go_at_call 65; (with_reducible refine (HX2.out _).mono ?_); rintro e w' ⟨rfl, rfl⟩))
      go_ret
      exact ⟨by rw [HN.out, ← h0]; simp [n1, n2, n3], rfl⟩
  · have d4 : decide (s.length ≤ 255) = false := by simpa using n4
    have d5 := no (show ¬ (s.length : Int) ≤ 255 by omega)
    rw [d4] at HN
    clear n4 d4 m1 m2 m3
    go_enter Tryz.func44, Tryz.ntmps44
    go_wp2
    go_ret
    exact ⟨by rw [HN.out]; rfl, rfl⟩
theorem cut_b (s : List UInt8) (w : World) (hm : MaxL w) (hs : s.length ≤ 1073741824) : Calls Tryz.prog 64 #[.string (B s), .string (B [47])] w fun e w' => e = .returned (.tuple #[.string (B (Lib.cut s [47]).1), .string (B (Lib.cut s [47]).2.1), .bool (Lib.cut s [47]).2.2]) ∧ Below w.heap.size w w' := by
  obtain ⟨m, hm⟩ := hm
  refine (Tryz.strings_Cut (B s) (B [47]) m w (by rw [B_size]; omega) hm).mono ?_
  rintro e w' ⟨rfl, n, rfl⟩
  rw [B_data, B_data]
  exact ⟨rfl, below_drewN (Below.refl _ _) n⟩
def encS (x : List UInt8) : Array Value := #[.string (B x)]
@[go_sem] theorem encS_eq (x : List UInt8) : encS x = #[.string (B x)] := rfl
/-- How long the text in a box is. -/
def boxLen (b : Nat) (w : World) : Nat := match w.cell? ⟨b, 0, none⟩ with
  | some (.string s) => s.size
  | _ => 0
theorem boxLen_of {b : Nat} {w : World} {s : List UInt8} (h : w.cell? ⟨b, 0, none⟩ = some (.string (B s))) : boxLen b w = s.length := by unfold boxLen; rw [h]; exact B_size s
set_option maxHeartbeats 2000000 in
theorem parts1 (n : Nat) (hn : 1 ≤ n) (l b1 : Nat) (s : List UInt8) (hs : s.length ≤ 1073741824) (h0b : b1 ≠ 0) (J Jx : List (List UInt8) → World → Prop)
    (hJW : ∀ s A C, Keeps (fun k => k = b1) A C → J s A → J s C)
    (hY : ∀ pre x W, J pre W → pre ++ [x] <+: partsL s → YieldAt Fence.wide (n - 1) Tryz.prog l (encS x) W fun e W' =>
      (e = .returned (.bool true) ∧ J (pre ++ [x]) W' ∧ KeepG (fun k => k = b1 ∨ k = 0) W W') ∨ (e = .returned (.bool false) ∧ Jx (pre ++ [x]) W'))
    (W : World) (h1 : W.cell? ⟨b1, 0, none⟩ = some (.string (B s))) (hf : W.frozen? ⟨b1, 0, none⟩ = false) (hm : MaxL W) (h0 : J [] W) :
    CallsIn Fence.wide n Tryz.prog 63 #[.func (.yield l) #[] #[], .pointer (some ⟨b1, 0, none⟩)] W fun e W' => (∃ v, e = .returned v) ∧ (J (partsL s) W' ∨ ∃ p, p <+: partsL s ∧ Jx p W') := by
  have HY := Lib.hid hY
  have HJW := Lib.hid hJW
  have HM0 := Lib.hid hm
  clear hY hJW hm
  refine callsIn_of_wp Tryz.func63 rfl trivial ?_ rfl
  simp only [Tryz.ntmps63, List.size_toArray, List.length_cons, List.length_nil, Nat.reduceAdd, Nat.reduceSub, Array.replicate_succ, Array.replicate_zero, List.push_toArray, List.append_toArray, List.nil_append, List.cons_append]
  gi_wp2
  gi_loopw [6] (fun _ wr => ∃ (t : List UInt8) (pre : List (List UInt8)), t.length ≤ s.length ∧ wr.cell? ⟨b1, 0, none⟩ = some (.string (B t)) ∧ wr.frozen? ⟨b1, 0, none⟩ = false ∧ Hid (MaxL wr) ∧ Hid (partsL s = pre ++ partsL t) ∧ Hid (J pre wr)) (fun _ wr => boxLen b1 wr)
  case atStart => exact ⟨s, [], by omega, h1, hf, HM0.out, rfl, h0⟩
  case round =>
    clear h1 hf HM0 h0
    obtain ⟨t, pre, ht, c1, f1, HM, HP, HJ⟩ := hrel
    have HC := Lib.hid (cut_b t wr HM.out (by omega))
    have hpc := parts_cut t
    have hb1 : b1 < wr.heap.size := World.block_lt_of_cell? wr _ c1
    haveI : Old wr b1 := ⟨hb1⟩
    have HBL := Lib.hid (boxLen_of c1)
    generalize (Lib.cut t [47]).1 = p at *
    generalize (Lib.cut t [47]).2.1 = r at *
    generalize (Lib.cut t [47]).2.2 = m at *
    have hP2 : partsL s = (pre ++ [p]) ++ (if m = true then partsL r else []) := by
      rcases hpc with ⟨h1, h2, h3⟩ | ⟨h1, h2, h3⟩
      · rw [HP.out, h3, h1, h2]; simp
      · rw [HP.out, h2, h1]; simp
    have hlen : pre ++ [p] <+: partsL s := ⟨_, hP2.symm⟩
    have HP2 := Lib.hid hP2
    have HPC := Lib.hid hpc
    clear hP2 hpc
    gi_wp2
    refine (callsIn_wide.2 HC.out).mono ?_
    rintro e w1 ⟨rfl, hb⟩
    have c2 := (hb.cell (p := ⟨b1, 0, none⟩) hb1).trans c1
    have f2 := (hb.frozen (p := ⟨b1, 0, none⟩) hb1).trans f1
    have HM2 := Lib.hid (HM.out.below hb)
    have HJ2 := Lib.hid (HJW.out _ _ _ (Keeps.of_below hb) HJ.out)
    haveI : Old w1 b1 := ⟨Nat.lt_of_lt_of_le hb1 hb.size⟩
    obtain ⟨fn, tmps, assign, body, hy, hR⟩ := HY.out _ p _ HJ2.out hlen
    clear hlen hb
    rw [encS_eq] at hy
    gi_wp2
    refine hR.mono ?_
    rintro e W3 (⟨rfl, hJ3, hk3⟩ | ⟨rfl, hJx3⟩)
    · have d1 := (hk3.cell (o := 0) (.inl rfl)).trans c2
      have d2 : W3.frozen? ⟨b1, 0, none⟩ = false := (World.frozen?_of_block (w := w1) (hk3 b1 (.inl rfl))).trans f2
      have HM3 := Lib.hid (HM2.out.keepG hk3 (.inr rfl))
      have HJ3 := Lib.hid hJ3
      haveI : Old W3 b1 := ⟨World.block_lt_of_cell? _ _ d1⟩
      clear hk3 hJ3 c1 c2 f1 f2 HM HM2
      cases m with
      | true =>
        gi_wp2
        have hS := Keeps.setCell (F := fun k => k = b1) W3 (a := ⟨b1, 0, none⟩) rfl (.string (B r))
        have hr : r.length < t.length := by
          rcases HPC.out with ⟨h, _⟩ | ⟨_, _, h⟩
          · cases h
          · exact h
        have g1 : (W3.setCell ⟨b1, 0, none⟩ (.string (B r))).cell? ⟨b1, 0, none⟩ = some (.string (B r)) := World.cell?_setCell_same' _ _ _ (by rw [d1]; rfl)
        go_roundw
        case rel => exact ⟨r, _, by omega, g1, by rw [World.frozen?_setCell]; exact d2, HM3.out.keeps hS (by omega), HP2.out, HJW.out _ _ _ hS HJ3.out⟩
        case measure => rw [HBL.out, boxLen_of g1]; exact hr
      | false =>
        have h3 := HP2.out
        rw [if_neg (by simp), List.append_nil] at h3
        have H3 := Lib.hid h3
        clear h3
        gi_wp2
        refine bodyPost_ret (results_none rfl _ _ _) rfl ?_
        exact ⟨⟨_, rfl⟩, .inl (by rw [H3.out]; exact HJ3.out)⟩
    · have HJ3 := Lib.hid hJx3
      clear hJx3
      gi_wp2
      refine bodyPost_ret (results_none rfl _ _ _) rfl ?_
      exact ⟨⟨_, rfl⟩, .inr ⟨_, ⟨_, HP2.out.symm⟩, HJ3.out⟩⟩
theorem parts_any (s : List UInt8) (w : World) : Calls Tryz.prog 43 #[.string (B s)] w fun e w' => e = .returned (.func (.func 63) #[] #[.pointer (some ⟨w.heap.size, 0, none⟩)]) ∧ w' = w.alloc (.cells #[.string (B s)] 9) := by
  go_enter Tryz.func43, Tryz.ntmps43
  go_wp2
  go_ret
  exact ⟨rfl, rfl⟩
theorem parts_gives (s : List UInt8) (w : World) (hm : MaxL w) (hs : s.length ≤ 1073741824) :
    GivesW Tryz.prog 63 #[.pointer (some ⟨w.heap.size, 0, none⟩)] encS (fun k => k = w.heap.size ∨ k = 0) w.heap.size (partsL s) (w.alloc (.cells #[.string (B s)] 9)) := by
  intro n hn l J Jx W hW hJ _ hY h0
  refine parts1 n hn l _ s hs (by have := hm.lt; omega) J Jx hJ hY W ?_ ?_ ((hm.below (below_alloc (Below.refl _ _) _)).below hW) h0
  · rw [hW.cell (by simp)]; simp [go_sem]
  · rw [hW.frozen (by simp)]; simp [go_sem]
end Go.Proofs.YtnecmpgcjgkheaaGreat.Fil
