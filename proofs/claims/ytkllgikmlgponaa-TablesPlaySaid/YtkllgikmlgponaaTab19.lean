/-
  Entries as arguments; the names that begin with a text, plainly.
-/
import Derived.Test.YtkllgikmlgponaaTab18
import Derived.Test.YtkllgikmlgponaaOpen
namespace Go.Proofs.Ytkllgikmlgponaa.Tab
open Go.ChangeShapes Go.WideShapes Go.Deep Go.ChangeAt Go.RowKit
set_option maxRecDepth 100000
def Ent.Ok (x : Ent) : Prop := x.name.length ≤ 9223372036854775807 ∧ x.val.length ≤ 9223372036854775807
theorem ent_cells : Try.prog.cellsOf 25 = 2 := by kernel_rfl
theorem Ent.len (x : Ent) : x.cells.length = 2 := rfl
theorem ent_dec {H : Type} {enc : TypeId × Value → H} {w : World} {fuel : Nat} {cs : List Value} {d : DataW H × List MemPlace}
    (h : DataW.trod enc Try.prog w 0 (fun _ => true) true fuel 25 cs = some d) : ∃ x : Ent, cs = x.cells ∧ x.Ok := by
  obtain ⟨ys, n, _, _, hl, hyl, hf⟩ := DataW.trod_struct Try.underlying25 h
  rw [ent_cells] at hl
  match cs, hl with
  | [c0, c1], _ =>
    have k0 : Try.prog.cellsOf 9 = 1 := by kernel_rfl
    have h0 := hf 0 _ rfl
    have h1 := hf 1 _ rfl
    simp [k0] at h0 h1
    have hy0 : ys[0]? = some (ys[0]'(by rw [hyl]; decide)) := List.getElem?_eq_getElem _
    obtain ⟨s0, e0, _, w0⟩ := DataW.trod_string Try.underlying9 (h0.trans hy0)
    obtain ⟨a0, rfl⟩ := B_all s0
    rw [B_size] at w0
    have hy1 : ys[1]? = some (ys[1]'(by rw [hyl]; decide)) := List.getElem?_eq_getElem _
    obtain ⟨s1, e1, _, w1⟩ := DataW.trod_string Try.underlying9 (h1.trans hy1)
    obtain ⟨a1, rfl⟩ := B_all s1
    rw [B_size] at w1
    simp at e0
    simp at e1
    subst e0
    subst e1
    exact ⟨⟨a0, a1⟩, rfl, w0, w1⟩
theorem pre_ge : ∀ {head z : List UInt8}, head.isPrefixOf z = true → ¬ (Lib.compareBytes z head < 0)
  | [], z, _ => by cases z <;> simp [Lib.compareBytes]
  | h :: t, [], hp => by simp at hp
  | h :: t, c :: z, hp => by
    simp only [List.isPrefixOf, Bool.and_eq_true, beq_iff_eq] at hp
    obtain ⟨rfl, hp⟩ := hp
    rw [cmp_cons, if_neg (Nat.lt_irrefl _), if_neg (Nat.lt_irrefl _)]
    exact pre_ge hp
theorem pre_lt : ∀ {head y z : List UInt8}, ¬ (Lib.compareBytes y head < 0) → head.isPrefixOf y = false → head.isPrefixOf z = true → Lib.compareBytes z y < 0
  | [], y, z, _, hy, _ => by simp at hy
  | h :: t, [], z, h1, _, _ => by simp [Lib.compareBytes] at h1
  | h :: t, c :: y, [], _, _, hz => by simp at hz
  | h :: t, c :: y, d :: z, h1, hy, hz => by
    simp only [List.isPrefixOf, Bool.and_eq_true, beq_iff_eq] at hz
    obtain ⟨rfl, hz⟩ := hz
    rw [cmp_cons] at h1 ⊢
    by_cases hlt : h.toNat < c.toNat
    · rw [if_pos hlt]; decide
    · by_cases hgt : c.toNat < h.toNat
      · rw [if_pos hgt] at h1; omega
      · have e : c = h := UInt8.toNat_inj.1 (by omega)
        subst e
        rw [if_neg (Nat.lt_irrefl _), if_neg (Nat.lt_irrefl _)] at h1 ⊢
        simp only [List.isPrefixOf, beq_self_eq_true, Bool.true_and] at hy
        exact pre_lt h1 hy hz
theorem takeW_filter {α : Type} (p : α → Bool) : ∀ {l : List α}, l.Pairwise (fun a b => p a = false → p b = false) → l.takeWhile p = l.filter p
  | [], _ => rfl
  | a :: r, h => by
    obtain ⟨h1, h2⟩ := List.pairwise_cons.1 h
    rw [List.takeWhile_cons, List.filter_cons]
    cases ha : p a with
    | true => simp only [if_true]; rw [takeW_filter p h2]
    | false =>
      simp only [Bool.false_eq_true, if_false]
      symm
      rw [List.filter_eq_nil_iff]
      intro b hb
      simp [h1 b hb ha]
/-- The names that begin so, in a row that rises. -/
theorem withL_eq {xs : List Ent} (h : Rises xs) (head : List UInt8) : withL xs head = (xs.filter (begB head)).map Ent.name := by
  unfold withL
  congr 1
  have hp := place_le xs head
  conv => rhs; rw [← List.take_append_drop (place xs head) xs, List.filter_append]
  rw [show (xs.take (place xs head)).filter (begB head) = [] from List.filter_eq_nil_iff.2 ?_, List.nil_append]
  · refine takeW_filter _ (List.pairwise_iff_getElem.2 fun i j hi hj hij ha => ?_)
    rw [List.length_drop] at hi hj
    rw [List.getElem_drop] at ha ⊢
    have hlt : Lib.compareBytes (xs[place xs head + i]'(by omega)).name (xs[place xs head + j]'(by omega)).name < 0 := List.pairwise_iff_getElem.1 h _ _ _ _ (by omega)
    have hge : ¬ Lib.compareBytes (xs[place xs head + i]'(by omega)).name head < 0 := fun q => by have := (place_iff h head (t := place xs head + i) (by omega)).1 q; omega
    cases hb : begB head (xs[place xs head + j]'(by omega)) with
    | false => rfl
    | true =>
      have := pre_lt hge ha hb
      rw [cmp_anti] at this
      omega
  · intro x hx
    obtain ⟨i, hi, rfl⟩ := List.mem_iff_getElem.1 hx
    rw [List.length_take] at hi
    rw [List.getElem_take]
    have := (place_iff h head (t := i) (by omega)).2 (by omega)
    intro hb
    exact pre_ge hb this
theorem filter_at {α : Type} (p : α → Bool) {xs : List α} {k : Nat} {x : α} (h : xs[k]? = some x) (hp : p x = true) : (xs.filter p)[((xs.take k).filter p).length]? = some x ∧ (xs.take (k + 1)).filter p = (xs.take k).filter p ++ [x] ∧ ((xs.take k).filter p).length < (xs.filter p).length := by
  obtain ⟨h1, rfl⟩ := List.getElem?_eq_some_iff.1 h
  have e : xs.filter p = (xs.take k).filter p ++ xs[k] :: (xs.drop (k + 1)).filter p := by
    conv => lhs; rw [← List.take_append_drop k xs, List.filter_append, List.drop_eq_getElem_cons h1, List.filter_cons, if_pos hp]
  refine ⟨?_, ?_, ?_⟩
  · rw [e]; simp
  · rw [List.take_succ_eq_append_getElem h1, List.filter_append]
    simp [hp]
  · rw [e]; simp
theorem filter_not {α : Type} (p : α → Bool) {xs : List α} {k : Nat} {x : α} (h : xs[k]? = some x) (hp : p x = false) : (xs.take (k + 1)).filter p = (xs.take k).filter p := by
  obtain ⟨h1, rfl⟩ := List.getElem?_eq_some_iff.1 h
  rw [List.take_succ_eq_append_getElem h1, List.filter_append]
  simp [hp]
end Go.Proofs.Ytkllgikmlgponaa.Tab
