/-
  The walks of the laws of layer 2 (undo), on: few, same; the struct Act. Conditions: none.
-/
import Derived.Test.YtkinjjgaecbogaaUndo9
namespace Go.Proofs.Ytkinjjgaecbogaa
open Go.ChangeShapes Go.WideShapes Go.Deep Go.RowKit
set_option maxRecDepth 100000
def Stp.Ok (s : Stp) : Prop := s.ed.Ok ∧ (-9223372036854775808 ≤ s.ahead ∧ s.ahead ≤ 9223372036854775807) ∧ (-9223372036854775808 ≤ s.behind ∧ s.behind ≤ 9223372036854775807)
theorem stp_cells : Try.prog.cellsOf 89 = 5 := by kernel_rfl
theorem stp_dec {H : Type} {enc : TypeId × Value → H} {w : World} {fuel : Nat} {cs : List Value} {d : DataW H × List MemPlace}
    (h : DataW.trod enc Try.prog w 0 (fun _ => true) true fuel 89 cs = some d) : ∃ x : Stp, cs = x.cells ∧ x.Ok := by
  obtain ⟨ys, n, _, _, hl, hyl, hf⟩ := DataW.trod_struct Try.underlying89 h
  rw [stp_cells] at hl
  match cs, hl with
  | [c0, c1, c2, c3, c4], _ =>
    have h0 := hf 0 _ rfl
    have h1 := hf 1 _ rfl
    have h2 := hf 2 _ rfl
    have k0 : Try.prog.cellsOf 3 = 1 := by kernel_rfl
    have k1 : Try.prog.cellsOf 78 = 3 := by kernel_rfl
    simp [k0, k1] at h0 h1 h2
    have hy0 : ys[0]? = some (ys[0]'(by rw [hyl]; decide)) := List.getElem?_eq_getElem _
    have hy1 : ys[1]? = some (ys[1]'(by rw [hyl]; decide)) := List.getElem?_eq_getElem _
    have hy2 : ys[2]? = some (ys[2]'(by rw [hyl]; decide)) := List.getElem?_eq_getElem _
    obtain ⟨z, e0, w0⟩ := ed_dec (h0.trans hy0)
    obtain ⟨m1, e1, _, wn1⟩ := DataW.trod_int Try.underlying3 (h1.trans hy1)
    obtain ⟨m2, e2, _, wn2⟩ := DataW.trod_int Try.underlying3 (h2.trans hy2)
    simp at e1 e2
    subst e1 e2
    simp only [Ed.cells, List.cons.injEq, and_true] at e0
    obtain ⟨rfl, rfl, rfl⟩ := e0
    exact ⟨⟨z, m1, m2⟩, rfl, w0, bounds_i64 wn1, bounds_i64 wn2⟩
/-- The struct quillwortlaw02.Act. -/
structure ActU where
  kind : Int
  s : Stp
def ActU.cells (x : ActU) : List Value := [.int .i64 x.kind] ++ x.s.cells
def ActU.Ok (x : ActU) : Prop := -9223372036854775808 ≤ x.kind ∧ x.kind ≤ 9223372036854775807 ∧ x.s.Ok
theorem actU_cells : Try.prog.cellsOf 91 = 6 := by kernel_rfl
theorem ActU.len (x : ActU) : x.cells.length = 6 := rfl
theorem actU_dec {H : Type} {enc : TypeId × Value → H} {w : World} {fuel : Nat} {cs : List Value} {d : DataW H × List MemPlace}
    (h : DataW.trod enc Try.prog w 0 (fun _ => true) true fuel 91 cs = some d) : ∃ x : ActU, cs = x.cells ∧ x.Ok := by
  obtain ⟨ys, n, _, _, hl, hyl, hf⟩ := DataW.trod_struct Try.underlying91 h
  rw [actU_cells] at hl
  match cs, hl with
  | [c0, c1, c2, c3, c4, c5], _ =>
    have k0 : Try.prog.cellsOf 3 = 1 := by kernel_rfl
    have k1 : Try.prog.cellsOf 89 = 5 := by kernel_rfl
    have h0 := hf 0 _ rfl
    have h1 := hf 1 _ rfl
    simp [k0, k1] at h0 h1
    have hy0 : ys[0]? = some (ys[0]'(by rw [hyl]; decide)) := List.getElem?_eq_getElem _
    obtain ⟨m0, e0, _, w0⟩ := DataW.trod_int Try.underlying3 (h0.trans hy0)
    have b0 := bounds_i64 w0
    have hy1 : ys[1]? = some (ys[1]'(by rw [hyl]; decide)) := List.getElem?_eq_getElem _
    obtain ⟨z1, e1, w1⟩ := stp_dec (h1.trans hy1)
    simp at e0
    subst e0
    simp only [Stp.cells, List.cons.injEq, and_true] at e1
    obtain ⟨rfl, rfl, rfl, rfl, rfl⟩ := e1
    exact ⟨⟨m0, z1⟩, rfl, b0.1, b0.2, w1⟩

open Classical in
/-- Acts that are few and short. -/
noncomputable def fewB (l : List ActU) : Bool := decide (l.length ≤ 40 ∧ ∀ a ∈ l, a.s.ed.del.length ≤ 100 ∧ a.s.ed.ins.length ≤ 100)
theorem fewB_yes {l : List ActU} (h : l.length ≤ 40 ∧ ∀ a ∈ l, a.s.ed.del.length ≤ 100 ∧ a.s.ed.ins.length ≤ 100) : fewB l = true := by unfold fewB; exact decide_eq_true h
theorem fewB_no {l : List ActU} (h : ¬ (l.length ≤ 40 ∧ ∀ a ∈ l, a.s.ed.del.length ≤ 100 ∧ a.s.ed.ins.length ≤ 100)) : fewB l = false := by unfold fewB; exact decide_eq_false h
theorem fewB_spec {l : List ActU} (h : fewB l = true) : l.length ≤ 40 ∧ ∀ a ∈ l, a.s.ed.del.length ≤ 100 ∧ a.s.ed.ins.length ≤ 100 := by unfold fewB at h; exact of_decide_eq_true h
theorem ret_b {a b : Bool} (h : a = b) : Ending.returned (.bool a) = .returned (.bool b) := by rw [h]
set_option maxHeartbeats 1600000 in
theorem few_any (l : List ActU) (v : Value) (w : World) (hv : Sl w ActU.cells 6 v l) : Calls Try.prog 50 #[v] w fun e w' => e = .returned (.bool (fewB l)) ∧ Below w.heap.size w w' := by
  obtain ⟨A, c, rfl, hc1, hc2, hn, hA⟩ := hv
  have HA := Lib.hid hA
  clear hA hn
  by_cases hl : 40 < l.length
  · go_enter Try.func50, Try.ntmps50
    go_wp2
    go_ret
    exact ⟨ret_b (fewB_no (fun h => by omega)).symm, by (repeat (first | with_reducible exact Below.refl _ _ | with_reducible assumption | with_reducible refine below_alloc ?_ _ | with_reducible refine below_grow ?_ _ | with_reducible refine below_drewN ?_ _ | with_reducible refine below_drew ?_ | with_reducible refine below_setCell ?_ (by first | (dsimp only; omega) | (simp; done) | (simp; omega)) _))⟩
  have hd := no (show ¬ (40 : Int) < (l.length : Int) by omega)
  have hl40 : l.length ≤ 40 := by omega
  clear hl
  go_enter Try.func50, Try.ntmps50
  go_wp2
  clear hd
  go_loopw [3] (fun i w' => ∃ k : Nat, k ≤ l.length ∧ i = .int .i64 k ∧ Hid (∀ a ∈ l.take k, a.s.ed.del.length ≤ 100 ∧ a.s.ed.ins.length ≤ 100) ∧ Drew w w') (fun i _ => l.length - (intOf i).toNat)
  case atStart => exact ⟨0, by omega, rfl, fun a h => by simp at h, .refl _⟩
  case round =>
    obtain ⟨k, hk, rfl, HT, m, rfl⟩ := hrel
    by_cases hlt : k < l.length
    · obtain ⟨b, off, rfl, hb, hc⟩ := HA.out (by omega)
      have e0 := fun j u hu => hc k _ (List.getElem?_eq_getElem hlt) j u hu
      have HTK := Lib.hid (take_snoc (List.getElem?_eq_getElem hlt))
      have f2 := e0 2 _ rfl
      have f3 := e0 3 _ rfl
      have hi0 : (0 : Int) ≤ (k : Int) := by omega
      have hi1 : (k : Int) < (l.length : Int) := by omega
      clear e0 hc
      haveI : Old w b := ⟨hb⟩
      have HM := Lib.hid (List.getElem_mem hlt)
      generalize l[k] = a at *
      have hs : ∀ (n : Nat), n ≤ 100 → decide ((100 : Int) < (n : Int)) = false := fun n hn => no (by omega)
      by_cases h1 : 100 < a.s.ed.del.length
      · have HB := Lib.hid (fewB_no (l := l) (fun h => by have := h.2 a HM.out; omega))
        go_wp2
        first | go_quiet (fail) | skip
        go_wp2
        go_ret
        exact ⟨ret_b HB.out.symm, by (repeat (first | with_reducible exact Below.refl _ _ | with_reducible assumption | with_reducible refine below_alloc ?_ _ | with_reducible refine below_grow ?_ _ | with_reducible refine below_drewN ?_ _ | with_reducible refine below_drew ?_ | with_reducible refine below_setCell ?_ (by first | (dsimp only; omega) | (simp; done) | (simp; omega)) _))⟩
      · have g1 := no (show ¬ (100 : Int) < (a.s.ed.del.length : Int) by omega)
        by_cases h2 : 100 < a.s.ed.ins.length
        · have HB := Lib.hid (fewB_no (l := l) (fun h => by have := h.2 a HM.out; omega))
          clear h1
          go_wp2
          first | go_quiet (fail) | skip
          go_wp2
          go_ret
          exact ⟨ret_b HB.out.symm, by (repeat (first | with_reducible exact Below.refl _ _ | with_reducible assumption | with_reducible refine below_alloc ?_ _ | with_reducible refine below_grow ?_ _ | with_reducible refine below_drewN ?_ _ | with_reducible refine below_drew ?_ | with_reducible refine below_setCell ?_ (by first | (dsimp only; omega) | (simp; done) | (simp; omega)) _))⟩
        · have g2 := no (show ¬ (100 : Int) < (a.s.ed.ins.length : Int) by omega)
          have H12 : Hid (a.s.ed.del.length ≤ 100 ∧ a.s.ed.ins.length ≤ 100) := ⟨by omega, by omega⟩
          clear h1 h2
          go_wp2
          first | go_quiet (fail) | skip
          go_wp2
          go_roundw
          case rel =>
            refine ⟨k + 1, by omega, by go_num, ?_, by (first | exact ⟨_, rfl⟩ | exact Drew.more ⟨_, rfl⟩ _ | exact Drew.more (Drew.more ⟨_, rfl⟩ _) _)⟩
            show ∀ x ∈ l.take (k + 1), _
            rw [HTK.out]
            intro x hx
            rcases List.mem_append.1 hx with hx | hx
            · exact HT.out x hx
            · simp at hx; subst hx; exact H12.out
          case measure => simp [intOf]; omega
    · have hkl : k = l.length := by omega
      have h3 := HT.out
      rw [hkl, List.take_length] at h3
      have H3 := Lib.hid h3
      clear h3 HT hkl
      go_wp2
      go_ret
      exact ⟨ret_b (fewB_yes ⟨hl40, H3.out⟩).symm, by (repeat (first | with_reducible exact Below.refl _ _ | with_reducible assumption | with_reducible refine below_alloc ?_ _ | with_reducible refine below_grow ?_ _ | with_reducible refine below_drewN ?_ _ | with_reducible refine below_drew ?_ | with_reducible refine below_setCell ?_ (by first | (dsimp only; omega) | (simp; done) | (simp; omega)) _))⟩
set_option maxHeartbeats 1600000 in
/-- Two rows of steps that are the same are told to be. -/
theorem same_eq (xs : List Stp) (u v : Value) (w : World) (hu : Sl w Stp.cells 5 u xs) (hv : Sl w Stp.cells 5 v xs) :
    Calls Try.prog 56 #[u, v] w fun e w' => e = .returned (.bool true) ∧ Below w.heap.size w w' := by
  obtain ⟨A, c, rfl, hc1, hc2, hn, hA⟩ := hu
  obtain ⟨A', c', rfl, hc1', hc2', hn', hA'⟩ := hv
  have HA := Lib.hid hA
  have HA' := Lib.hid hA'
  clear hA hA' hn hn'
  go_enter Try.func56, Try.ntmps56
  go_wp2
  go_loopw [5] (fun i w' => ∃ k : Nat, k ≤ xs.length ∧ i = .int .i64 k ∧ Drew w w') (fun i _ => xs.length - (intOf i).toNat)
  case atStart => exact ⟨0, by omega, rfl, .refl _⟩
  case round =>
    obtain ⟨k, hk, rfl, m, rfl⟩ := hrel
    by_cases hlt : k < xs.length
    · obtain ⟨b, off, rfl, hb, hc⟩ := HA.out (by omega)
      obtain ⟨b', off', rfl, hb', hc'⟩ := HA'.out (by omega)
      have hx := List.getElem?_eq_getElem hlt
      have e0 := fun j u hu => hc k _ hx j u hu
      have d0 := fun j u hu => hc' k _ hx j u hu
      have e00 := e0 0 _ rfl
      have e1 := e0 1 _ rfl
      have e2 := e0 2 _ rfl
      have e3 := e0 3 _ rfl
      have e4 := e0 4 _ rfl
      have d00 := d0 0 _ rfl
      have d1 := d0 1 _ rfl
      have d2 := d0 2 _ rfl
      have d3 := d0 3 _ rfl
      have d4 := d0 4 _ rfl
      simp only [Nat.add_zero] at e00 d00
      have hi0 : (0 : Int) ≤ (k : Int) := by omega
      have hi1 : (k : Int) < (xs.length : Int) := by omega
      clear e0 d0 hc hc' hx
      generalize xs[k] = a at *
      haveI : Old w b := ⟨hb⟩
      haveI : Old w b' := ⟨hb'⟩
      go_wp2
      go_quiet (fail)
      go_wp2
      go_roundw
      case rel => exact ⟨k + 1, by omega, by go_num, by (first | exact ⟨_, rfl⟩ | exact Drew.more ⟨_, rfl⟩ _ | exact Drew.more (Drew.more ⟨_, rfl⟩ _) _)⟩
      case measure => simp [intOf]; omega
    · have hkl : k = xs.length := by omega
      have HKL := Lib.hid hkl
      clear hkl
      go_wp2
      go_ret
      exact ⟨rfl, by (repeat (first | with_reducible exact Below.refl _ _ | with_reducible assumption | with_reducible refine below_alloc ?_ _ | with_reducible refine below_grow ?_ _ | with_reducible refine below_drewN ?_ _ | with_reducible refine below_drew ?_ | with_reducible refine below_setCell ?_ (by first | (dsimp only; omega) | (simp; done) | (simp; omega)) _))⟩
end Go.Proofs.Ytkinjjgaecbogaa
