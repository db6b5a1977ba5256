/-
  The walks of layer 2 (undo), on: a ring's Texts. Conditions: at most 2^40 texts.
-/
import Derived.Test.YtkinjjgaecbogaaRing3
import Derived.Test.YtkinjjgaecbogaaShelf
namespace Go.Proofs.Ytkinjjgaecbogaa
open Go.ChangeShapes Go.WideShapes Go.Deep Go.RowKit Go.Lib Go.Sort
set_option maxRecDepth 100000
theorem own_geB {w : World} {b0 : Nat} {v : Value} {ts : List (List UInt8)} (h : Own w b0 1 v ts.length (ts.flatMap strC)) : ts = [] ∨ ∀ k, v.ownBlock = some k → b0 ≤ k := by
  by_cases h0 : ts = []
  · exact .inl h0
  · obtain ⟨g, off, c, rfl, hb, _⟩ := h.form' (List.length_pos_iff.2 h0)
    exact .inr fun k e => by cases e; exact hb
theorem rev_str (w : World) (b0 : Nat) (v : Value) (ts : List (List UInt8)) (h : Own w b0 1 v ts.length (ts.flatMap strC)) (hl : ts.length ≤ 1099511627776) :
    Calls Try.prog 89 #[v] w fun e w' => e = .returned (.tuple #[]) ∧ Sl w' strC 1 v ts.reverse ∧ ∀ n, (ts = [] ∨ ∀ k, v.ownBlock = some k → n ≤ k) → Go.RowKit.Below n w w' := by
  by_cases h0 : ts = []
  · subst h0
    have hs := h.sl (en := strC) (xs := []) strC_len rfl
    obtain ⟨A, c, rfl, _⟩ := h.form0
    refine (Try.slices_Reverse_string_empty A c w).mono fun e w' k => ?_
    obtain ⟨k1, rfl⟩ := k
    exact ⟨k1, hs, fun n _ => Go.RowKit.Below.refl _ _⟩
  · obtain ⟨g, off, c, rfl, _, hg, hcl, hc2⟩ := h.form' (List.length_pos_iff.2 h0)
    have hH : Holds encStr w g off ts.toArray := by
      intro j hj
      have hj' : j < ts.length := by simpa using hj
      obtain ⟨y, hy, hyc, hyf⟩ := h.cellOk j hj'
      have e : ts.toArray[j]! = y := by
        rw [getElem!_pos _ j hj]
        have := (List.getElem?_eq_some_iff.1 hy).2
        simpa using this
      rw [e]
      exact ⟨hyc, hyf⟩
    refine (Try.slices_Reverse_string g off c ts w hH (by omega)).mono fun e w' k => ?_
    obtain ⟨k1, n, rfl⟩ := k
    have hH2 : Holds encStr (Sort.ahead w n) g off ts.toArray := hH
    refine ⟨k1, ⟨_, c, by rw [List.length_reverse], by rw [List.length_reverse]; exact hcl, hc2, fun h => (by cases h), fun _ => ⟨g, off, rfl, by simpa using hg, fun j x hx i u hu => ?_⟩⟩, fun m hm => ⟨rfl, rfl, rfl, by simp, fun k hk => ?_⟩⟩
    · have hj := (List.getElem?_eq_some_iff.1 hx).1
      have hc := cell?_putRow encStr (Sort.ahead w n) g off ts.toArray ts.reverse.toArray hH2 (by simp) j (by simpa using hj)
      match i, hu with
      | 0, hu =>
        cases hu
        rw [Nat.mul_one, Nat.add_zero, hc, getElem!_pos _ j (by simpa using hj)]
        have := (List.getElem?_eq_some_iff.1 hx).2
        simp only [List.getElem_toArray]
        rw [this]; try rfl
      | i + 1, hu => simp [strC] at hu
    · have hgk : g ≠ k := fun e => by have := hm.resolve_left h0 g rfl; omega
      simp [putRow, mapBlock, Sort.ahead, Array.getElem?_modify, hgk]
def TextsP (ts : List (List UInt8)) (w : World) (e : Ending) (w' : World) : Prop := ∃ v, e = .returned v ∧ Sl w' strC 1 v ts.reverse ∧ Go.RowKit.Below w.heap.size w w'
theorem texts_any (w : World) (b0 rb : Nat) (lv : Value) (ts : List (List UInt8)) (h : RAt w b0 rb lv ts) (hl : ts.length ≤ 1099511627776) : Calls Try.prog 64 #[.pointer (some ⟨rb, 0, none⟩)] w (TextsP ts w) := by
  have HC := Lib.hid (clone_str ts lv w (h.own.sl strC_len rfl) hl)
  have c0 := h.c0
  haveI : Old w rb := ⟨h.lt⟩
  obtain ⟨A, c, rfl, _⟩ := h.own.form0
  clear h
  go_enter Try.func64, Try.ntmps64
  go_wp2_with (first
    | (go_at_call 66; refine HC.out.mono ?_; rintro e w1 ⟨v1, rfl, ho, hb⟩; have HO := Lib.hid ho; have HB := Lib.hid hb; obtain ⟨A1, c1, rfl, _⟩ := ho.form0; have HGE : Hid (ts = [] ∨ ∀ k, (Value.slice A1 ts.length c1).ownBlock = some k → w.heap.size ≤ k) := own_geB ho; clear ho hb)
    | (go_at_call 89; refine (rev_str _ _ _ ts HO.out hl).mono ?_; rintro e w2 ⟨rfl, hs, hb2⟩; have HS := Lib.hid hs; have HB2 := Lib.hid hb2; clear hs hb2))
  go_ret
  refine ⟨_, rfl, HS.out, HB.out.trans (HB2.out _ HGE.out)⟩
end Go.Proofs.Ytkinjjgaecbogaa
