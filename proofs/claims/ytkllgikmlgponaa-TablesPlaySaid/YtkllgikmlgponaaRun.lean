/-
  'copy' of elements of any size, and own slices behind it. No program in sight.
-/
import Derived.Test.YtkllgikmlgponaaOwn
namespace Go.Proofs.Ytkllgikmlgponaa
open Go.ChangeShapes Go.WideShapes Go.Deep Go.RowKit
theorem run_copy_sz {P : Program} (w : World) (dT sT ty elem : TypeId) (sz b o dLen dCap : Nat) (a : Addr) (sLen sCap n : Nat) (cs : List Value)
    (hu : P.underlying dT = some (.slice elem)) (hs : (P.info? elem).map (·.size) = some sz) (hn : n = Nat.min sLen dLen) (hl : cs.length = n * sz)
    (hsrc : ∀ j v, cs[j]? = some v → w.cell? (a.add j) = some v) (hc : ∀ j, j < cs.length → (w.cell? ⟨b, o + j, none⟩).isSome = true) (hf : ∀ j, j < cs.length → w.frozen? ⟨b, o + j, none⟩ = false) (h1 : ∀ v ∈ cs, v.oneCell' = true) :
    (Builtin.copy_ #[dT, sT] ty #[.slice (some ⟨b, o, none⟩) dLen dCap, .slice (some a) sLen sCap]).run P w = .ok (goInt n) (w.setCells b o cs) := by
  have hld := run_loadCells_list (P := P) w a cs hsrc
  have hst := run_storeCells_cells (P := P) b o cs 0 w (by simpa using hc) (by simpa using hf) h1
  rw [hl] at hld
  cases hq : P.info? elem with
  | none => simp [hq] at hs
  | some i =>
    have hi : i.size = sz := by simpa [hq] using hs
    simp [Builtin.copy_, run_underlying hu, Builtin.lenOf, Builtin.firstCells, sizeOf, typeInfo, hq, hi, ← hn, hld, hst]
theorem keeps_setCells {F : Nat → Prop} {b : Nat} (hb : F b) : ∀ (vs : List Value) (o : Nat) (w : World), Keeps F w (w.setCells b o vs)
  | [], _, _ => Keeps.of_below (Below.refl _ _)
  | v :: r, o, w => (Keeps.setCell w (a := ⟨b, o, none⟩) hb v).trans (keeps_setCells hb r (o + 1) _)
/-- An own slice, an element laid between its elements: there is room. -/
theorem own_shift {w : World} {b0 sz g off n c i : Nat} {xs ys : List Value} (h : Own w b0 sz (.slice (some ⟨g, off, none⟩) n c) n xs) (hsz : 0 < sz) (hi : i ≤ n) (hc : n + 1 ≤ c) (hy : ys.length = sz) :
    Own ((w.setCells g (off + (i + 1) * sz) (xs.drop (i * sz))).setCells g (off + i * sz) ys) b0 sz (.slice (some ⟨g, off, none⟩) (n + 1) c) (n + 1) (xs.take (i * sz) ++ (ys ++ xs.drop (i * sz))) := by
  have hxl := h.1
  have him : i * sz ≤ n * sz := Nat.mul_le_mul_right sz hi
  have hcm : (n + 1) * sz ≤ c * sz := Nat.mul_le_mul_right sz hc
  have e1 : (n + 1) * sz = n * sz + sz := by rw [Nat.add_mul, Nat.one_mul]
  have e2 : (i + 1) * sz = i * sz + sz := by rw [Nat.add_mul, Nat.one_mul]
  rcases h.2 with ⟨h0, e | ⟨g', off', e, hg⟩⟩ | ⟨g', off', c', e, g1, g2, g3, g4, g5, g6⟩
  · cases e
  · injection e with _ _ e3; omega
  · injection e with e5 _ e6
    injection e5 with e5
    injection e5 with e5 e7
    subst e5 e6 e7
    have hdl : (xs.drop (i * sz)).length = n * sz - i * sz := by rw [List.length_drop, hxl]
    have hs1 : ∀ j, j < c * sz → ((w.setCells g (off + (i + 1) * sz) (xs.drop (i * sz))).cell? ⟨g, off + j, none⟩).isSome = true := fun j hj => by
      by_cases hin : (i + 1) * sz ≤ j ∧ j < (i + 1) * sz + (xs.drop (i * sz)).length
      · have := World.cell?_setCells_in g (xs.drop (i * sz)) (off + (i + 1) * sz) w (fun k hk => by rw [Nat.add_assoc]; exact (g5 _ (by omega)).1) (j - (i + 1) * sz) (by omega)
        rw [show off + (i + 1) * sz + (j - (i + 1) * sz) = off + j by omega] at this
        rw [this]; rfl
      · rw [World.cell?_setCells_out g (xs.drop (i * sz)) (off + (i + 1) * sz) _ ⟨g, off + j, none⟩ (fun _ _ => by show off + j < off + (i + 1) * sz ∨ off + (i + 1) * sz + _ ≤ off + j; omega)]
        exact (g5 j hj).1
    have hK : Keeps (fun k => k = g) w ((w.setCells g (off + (i + 1) * sz) (xs.drop (i * sz))).setCells g (off + i * sz) ys) := (keeps_setCells (F := fun k => k = g) rfl _ _ _).trans (keeps_setCells (F := fun k => k = g) rfl _ _ _)
    refine ⟨by rw [List.length_append, List.length_append, List.length_take, hdl, hy, hxl]; omega, .inr ⟨g, off, c, rfl, g1, Nat.lt_of_lt_of_le g2 hK.size, hc, g4, fun j hj => ⟨?_, ?_⟩, fun j u hj => ?_⟩⟩
    · by_cases hin : i * sz ≤ j ∧ j < i * sz + ys.length
      · have := World.cell?_setCells_in g ys (off + i * sz) (w.setCells g (off + (i + 1) * sz) (xs.drop (i * sz))) (fun k hk => by rw [Nat.add_assoc]; exact hs1 _ (by omega)) (j - i * sz) (by omega)
        rw [show off + i * sz + (j - i * sz) = off + j by omega] at this
        rw [this]; rfl
      · rw [World.cell?_setCells_out g ys (off + i * sz) _ ⟨g, off + j, none⟩ (fun _ _ => by show off + j < off + i * sz ∨ off + i * sz + _ ≤ off + j; omega)]
        exact hs1 j hj
    · rw [World.frozen?_setCells, World.frozen?_setCells]; exact (g5 j hj).2
    · rcases Nat.lt_or_ge j (i * sz) with h1 | h1
      · rw [World.cell?_setCells_out g ys (off + i * sz) _ ⟨g, off + j, none⟩ (fun _ _ => by show off + j < off + i * sz ∨ off + i * sz + _ ≤ off + j; omega), World.cell?_setCells_out g (xs.drop (i * sz)) (off + (i + 1) * sz) _ ⟨g, off + j, none⟩ (fun _ _ => by show off + j < off + (i + 1) * sz ∨ off + (i + 1) * sz + _ ≤ off + j; omega)]
        rw [List.getElem?_append_left (by rw [List.length_take]; omega), List.getElem?_take, if_pos h1] at hj
        exact g6 j u hj
      · rcases Nat.lt_or_ge j (i * sz + sz) with h2 | h2
        · rw [List.getElem?_append_right (by rw [List.length_take]; omega), List.length_take, Nat.min_eq_left (by omega), List.getElem?_append_left (by omega)] at hj
          obtain ⟨hj1, hj2⟩ := List.getElem?_eq_some_iff.1 hj
          have := World.cell?_setCells_in g ys (off + i * sz) (w.setCells g (off + (i + 1) * sz) (xs.drop (i * sz))) (fun k hk => by rw [Nat.add_assoc]; exact hs1 _ (by omega)) (j - i * sz) (by omega)
          rw [show off + i * sz + (j - i * sz) = off + j by omega] at this
          rw [this, hj2]
        · rw [World.cell?_setCells_out g ys (off + i * sz) _ ⟨g, off + j, none⟩ (fun _ _ => by show off + j < off + i * sz ∨ off + i * sz + _ ≤ off + j; omega)]
          rw [List.getElem?_append_right (by rw [List.length_take]; omega), List.length_take, Nat.min_eq_left (by omega), List.getElem?_append_right (by omega), hy] at hj
          obtain ⟨hj1, hj2⟩ := List.getElem?_eq_some_iff.1 hj
          have := World.cell?_setCells_in g (xs.drop (i * sz)) (off + (i + 1) * sz) w (fun k hk => by rw [Nat.add_assoc]; exact (g5 _ (by omega)).1) (j - i * sz - sz) hj1
          rw [show off + (i + 1) * sz + (j - i * sz - sz) = off + j by omega] at this
          rw [this, hj2]
end Go.Proofs.Ytkllgikmlgponaa
