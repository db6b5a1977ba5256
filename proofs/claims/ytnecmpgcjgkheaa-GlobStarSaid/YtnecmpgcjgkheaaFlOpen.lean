/-
  A row of files as an argument. No condition.
-/
import Derived.Test.YtnecmpgcjgkheaaGlob10
import Derived.Test.YtnecmpgcjgkheaaSl
import Derived.Test.YtnecmpgcjgkheaaRefTree4
set_option linter.unusedSimpArgs false
set_option linter.unusedVariables false
namespace Go.Proofs.Ytnecmpgcjgkheaa.Glob
open Go.ChangeShapes Go.WideShapes Go.Deep Go.RowKit Fil Pat
set_option maxRecDepth 100000
def fewB (l : List Fl) : Bool := decide (l.length ≤ 20) && l.all fun f => decide (f.path.length ≤ 100)
set_option maxHeartbeats 1600000 in
theorem few_any (l : List Fl) (v : Value) (w : World) (h : Sl w flC 2 v l) : Calls Try.prog 10 #[v] w fun e w' => e = .returned (.bool (fewB l)) ∧ Below w.heap.size w w' := by
  obtain ⟨A, c, rfl, hc1, hc2, hn, hA⟩ := h
  have HA := Lib.hid hA
  clear hA hn
  by_cases l1 : 20 < l.length
  · have HE := Lib.hid (show fewB l = false by unfold fewB; rw [decide_eq_false (by omega), Bool.false_and])
    go_enter Try.func10, Try.ntmps10
    go_wp2
    go_ret
    exact ⟨by rw [HE.out]; rfl, Below.refl _ _⟩
  have c1 := no (show ¬ (20 : Int) < (l.length : Int) by omega)
  have HL := Lib.hid l1
  clear l1
  go_enter Try.func10, Try.ntmps10
  go_wp2
  go_loopw [3] (fun i w' => ∃ k : Nat, k ≤ l.length ∧ i = .int .i64 k ∧ Hid (∀ f ∈ l.take k, f.path.length ≤ 100) ∧ w = w') (fun i _ => l.length - (intOf i).toNat)
  case atStart => exact ⟨0, by omega, rfl, fun f hf => by simp at hf, rfl⟩
  case round =>
    obtain ⟨k, hk, rfl, HT, rfl⟩ := hrel
    by_cases hlt : k < l.length
    · obtain ⟨b, off, rfl, hb, hc⟩ := HA.out (by omega)
      obtain ⟨x, hxm⟩ := get_some hlt
      have e0 : w.cell? ⟨b, off + k * 2, none⟩ = some (.string (B x.path)) := by have := hc k _ hxm 0 _ rfl; simpa using this
      haveI : Old w b := ⟨hb⟩
      have k0 : (0 : Int) ≤ (k : Int) := by omega
      have k1 : (k : Int) < (l.length : Int) := by omega
      have HXM := Lib.hid hxm
      clear hc hxm
      by_cases n1 : 100 < x.path.length
      · have HE := Lib.hid (show fewB l = false by
          unfold fewB
          rw [Bool.and_eq_false_iff]
          right
          rw [List.all_eq_false]
          exact ⟨x, List.mem_of_getElem? HXM.out, by simp; omega⟩)
        go_wp2
        go_ret
        exact ⟨by rw [HE.out]; rfl, Below.refl _ _⟩
      · have q1 := no (show ¬ (100 : Int) < (x.path.length : Int) by omega)
        have HN := Lib.hid n1
        clear n1
        go_wp2
        go_roundw
        case rel =>
          refine ⟨k + 1, by omega, by go_num, fun f hf => ?_, trivial⟩
          rw [List.take_add_one, HXM.out] at hf
          rcases List.mem_append.1 hf with hf | hf
          · exact HT.out f hf
          · obtain rfl : f = x := by simpa using hf
            have := HN.out
            omega
        case measure => simp [intOf]; omega
    · have hk2 : k = l.length := by omega
      subst hk2
      have d0 := no hlt
      have ht := HT.out
      rw [List.take_length] at ht
      have HE := Lib.hid (show fewB l = true by
        unfold fewB
        rw [Bool.and_eq_true, decide_eq_true_eq, List.all_eq_true]
        exact ⟨by have := HL.out; omega, fun f hf => by simpa using ht f hf⟩)
      clear hlt ht
      go_wp2
      go_ret
      exact ⟨by rw [HE.out]; rfl, Below.refl _ _⟩
def awF : List Fl := [⟨[47, 97], 1⟩, ⟨[47, 97, 47, 120, 46, 99], 2⟩, ⟨[47, 97, 47, 121, 46, 99], 2⟩, ⟨[47, 97, 47, 122, 46, 104], 2⟩]
theorem awF_of : ofF awF = awF := by kernel_rfl
theorem aw_sl {W : World} {b : Nat} (h : BoxN W b (awF.flatMap flC)) : Sl W flC 2 (.slice (some ⟨b, 0, none⟩) 4 4) awF := by
  refine ⟨_, 4, rfl, by decide, by decide, by simp, fun _ => ⟨b, 0, rfl, h.lt, fun k x hx j u hj => ?_⟩⟩
  rw [Nat.zero_add]
  exact h.c _ _ (flat_at awF flC_len k x hx j u hj)
set_option maxHeartbeats 1600000 in
theorem awake27_any (w : World) (hm : MaxL w) : Calls Try.prog 6 #[] w fun e w' => e = .returned (.bool true) ∧ Below w.heap.size w w' := by
  have HO := Lib.hid fun W (hW : Below w.heap.size w W) (v : Value) (h : Sl W flC 2 v awF) => of_any awF v W h (hm.below hW) (by decide) (by decide)
  unfold OfP at HO
  rw [awF_of] at HO
  have HG := Lib.hid fun W (hW : Below w.heap.size w W) (b0 tb : Nat) nb mp (h : TreeAt W b0 tb awF nb mp) => globPaths_any W b0 tb awF nb mp [47] [97, 47, 42, 46, 99] h (hm.below hW) (by decide) (by decide) (by decide) (by decide) (by decide +kernel)
  rw [show pathsG awF [47] [97, 47, 42, 46, 99] = [[97, 47, 120, 46, 99], [97, 47, 121, 46, 99]] from aw_glob] at HG
  have HB := Lib.hid (below_alloc (Below.refl w.heap.size w) (.cells #[.string (B [47, 97]), .int .i64 1, .string (B [47, 97, 47, 120, 46, 99]), .int .i64 2, .string (B [47, 97, 47, 121, 46, 99]), .int .i64 2, .string (B [47, 97, 47, 122, 46, 104]), .int .i64 2] 40))
  have HS : Hid (Sl (w.alloc (.cells #[.string (B [47, 97]), .int .i64 1, .string (B [47, 97, 47, 120, 46, 99]), .int .i64 2, .string (B [47, 97, 47, 121, 46, 99]), .int .i64 2, .string (B [47, 97, 47, 122, 46, 104]), .int .i64 2] 40)) flC 2 (.slice (some ⟨w.heap.size, 0, none⟩) 4 4) awF) := Lib.hid (aw_sl (BoxN.new w (awF.flatMap flC) 40))
  go_enter Try.func6, Try.ntmps6
  go_wp2_with (first
    | (go_at_call 11; (with_reducible refine (HO.out _ HB.out _ HS.out).mono ?_); rintro e w1 ⟨rfl, ⟨nb, mp, ht⟩, hb⟩; rw [World.size_alloc] at ht; have HT := Lib.hid ht; have HB1 := Lib.hid (below_then HB.out hb); clear ht hb)
    | (go_at_call 12; go_loud ((with_reducible refine (HG.out _ HB1.out _ _ nb mp HT.out).mono ?_); rintro e w2 ⟨v, rfl, ho, hb⟩; obtain ⟨g, off, c, rfl, hg, hg2, -, -⟩ := ho.form' (by decide); obtain ⟨-, -, c0⟩ := own_str ho (k := 0) rfl; obtain ⟨-, -, c1⟩ := own_str ho (k := 1) rfl; rw [Nat.add_zero] at c0; haveI : Old w2 g := ⟨hg2⟩; have HB2 := Lib.hid (below_then HB1.out hb); clear ho hb hg)))
  go_ret
  exact ⟨rfl, HB2.out⟩
theorem walk_tx {x : List Fl} (hxl : ∀ f ∈ x, f.path.length ≤ 10000) : ∀ (ps : List (List UInt8)) (text dir : List UInt8), (∀ q ∈ ps, q.length ≤ 10000) → ∀ a ∈ walkG x ps text dir, a.length ≤ text.length + ps.length * 10001
  | [], _, _, _, a, ha => by simp [walkG] at ha
  | p :: ps, text, dir, hq, a, ha => by
    have hq' : ∀ q ∈ ps, q.length ≤ 10000 := fun q h => hq q (by simp [h])
    rw [walkG] at ha
    rw [List.length_cons, Nat.add_mul]
    split at ha
    · split at ha
      · rw [List.mem_singleton.1 ha]; omega
      · have := walk_tx hxl ps _ _ hq' a ha
        simp at this
        omega
    · obtain ⟨b, hb, ha⟩ := List.mem_flatMap.1 ha
      have hbl := nameG_len hxl (hq p (by simp)) hb
      split at ha
      · cases ha
      · split at ha
        · rw [List.mem_singleton.1 ha, List.length_append]; omega
        · split at ha
          · have := walk_tx hxl ps _ _ hq' a ha
            simp at this
            omega
          · cases ha
theorem paths_tx {x : List Fl} (hxl : ∀ f ∈ x, f.path.length ≤ 10000) {dir p a : List UInt8} (hp : p.length ≤ 9000) (h : a ∈ pathsG x dir p) : a.length ≤ 100000000 := by
  rw [pathsG_mem] at h
  unfold globG at h
  split at h
  · cases h
  · have h1 := partsG_len p
    have := walk_tx hxl (partsG p) _ _ (fun q hq => by have := h1.2 q hq; omega) a h
    have h2 : (partsG p).length * 10001 ≤ 9001 * 10001 := Nat.mul_le_mul_right _ (by omega)
    simp at this
    omega
end Go.Proofs.Ytnecmpgcjgkheaa.Glob
namespace Go.Proofs.Ytnecmpgcjgkheaa
open Go.ChangeShapes Go.WideShapes Go.ChangeAt Go.RowKit
open Go.ChangeMaps (open_string shut_string)
set_option maxRecDepth 100000
section
variable {H : Type} {enc : TypeId × Value → H} {w : World} {base : Nat} {d : DataW H} {p : List MemPlace} {v : Value}
theorem open_text (h : DataW.Trod enc Try.prog w 0 (fun _ => true) true 9 v d p) (k : Value.okWide Try.prog w .any base 9 v) : ∃ s, v = .string (B s) ∧ s.length ≤ 9223372036854775807 := by
  obtain ⟨a, rfl, rfl, rfl, ha⟩ := open_string Try.underlying9 k h
  obtain ⟨s, rfl⟩ := B_all a
  exact ⟨s, rfl, by rw [B_size] at ha; exact ha⟩
end
end Go.Proofs.Ytnecmpgcjgkheaa
namespace Go.Proofs.Ytnecmpgcjgkheaa.Fil
open Go.ChangeShapes Go.WideShapes Go.Deep Go.ChangeAt Go.RowKit
set_option maxRecDepth 100000
def FlOk (x : Fl) : Prop := x.path.length ≤ 9223372036854775807 ∧ -9223372036854775808 ≤ x.kind ∧ x.kind ≤ 9223372036854775807
theorem fl_cells : Try.prog.cellsOf 40 = 2 := by kernel_rfl
theorem fl_dec {H : Type} {enc : TypeId × Value → H} {w : World} {fuel : Nat} {cs : List Value} {d : DataW H × List MemPlace}
    (h : DataW.trod enc Try.prog w 0 (fun _ => true) true fuel 40 cs = some d) : ∃ x : Fl, cs = flC x ∧ FlOk x := by
  obtain ⟨ys, n, _, _, hl, hyl, hf⟩ := DataW.trod_struct Try.underlying40 h
  rw [fl_cells] at hl
  match cs, hl with
  | [c0, c1], _ =>
    have k0 : Try.prog.cellsOf 9 = 1 := by kernel_rfl
    have k1 : Try.prog.cellsOf 3 = 1 := by kernel_rfl
    have h0 := hf 0 _ rfl
    have h1 := hf 1 _ rfl
    simp [k0, k1] at h0 h1
    have hy0 : ys[0]? = some (ys[0]'(by rw [hyl]; decide)) := List.getElem?_eq_getElem _
    obtain ⟨s0, e0, _, w0⟩ := DataW.trod_string Try.underlying9 (h0.trans hy0)
    obtain ⟨a0, rfl⟩ := B_all s0
    rw [B_size] at w0
    have hy1 : ys[1]? = some (ys[1]'(by rw [hyl]; decide)) := List.getElem?_eq_getElem _
    obtain ⟨s1, e1, _, w1⟩ := DataW.trod_int Try.underlying3 (h1.trans hy1)
    simp at e0
    simp at e1
    subst e0
    subst e1
    exact ⟨⟨a0, s1⟩, rfl, w0, bounds_i64 w1⟩
end Go.Proofs.Ytnecmpgcjgkheaa.Fil
