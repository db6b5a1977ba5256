/-
  Slices of bytes of the call's own, a text appended to them: one law for nil, empty and other slices, whatever room there is.
-/
import Derived.Test.YtadaeecokkokjaaGreatOwn
import Derived.Test.YtadaeecokkokjaaGreatProg
import Derived.Lib.AppendStr
import Derived.Lib.SlBytesRow
import Derived.Lib.BufferRead
set_option linter.unusedSimpArgs false
set_option linter.unusedVariables false
namespace Go.Proofs.YtadaeecokkokjaaGreat
open Go.ChangeShapes Go.WideShapes Go.Deep Go.RowKit
/-- The cell of a byte. -/
def byC (x : UInt8) : List Value := [.int .u8 x.toNat]
theorem byC_map (xs : List UInt8) : xs.flatMap byC = xs.map fun y => Value.int .u8 y.toNat := by
  induction xs with
  | nil => rfl
  | cons y ys ih => rw [List.flatMap_cons, ih]; rfl
theorem byC_flat (xs : List UInt8) : (xs.flatMap byC).length = xs.length := by rw [byC_map, List.length_map]
theorem byC_get (xs : List UInt8) (j : Nat) : (xs.flatMap byC)[j]? = (xs[j]?).map fun y => Value.int .u8 y.toNat := by rw [byC_map, List.getElem?_map]
theorem byC_str (s : List UInt8) : Lib.strCells (B s) = s.flatMap byC := by rw [byC_map]; rfl
theorem byC_cells (s : List UInt8) : Lib.byteCells s = s.flatMap byC := by rw [byC_map]; rfl
section
variable {P : Program} (w : World)
/-- A text appended to a slice of the call's own. -/
theorem run_append_str (b0 t u ty e : Nat) (i : TypeInfo) (ht : P.underlying t = some (.slice e)) (hu : P.underlying u = some .string) (hi : P.info? e = some i) (hz : i.zero = some (.int .u8 0))
    (hsize : i.size = 1) (hby : i.bytes = 1) (v : Value) (n : Nat) (xs : List UInt8) (hown : Own w b0 1 v n (xs.flatMap byC)) (s : List UInt8)
    (h63 : n + s.length ≤ 70368744177664) (hb : b0 ≤ w.heap.size) :
    ∃ v' w', (Builtin.append_ #[t, u] ty #[v, .string (B s)]).run P w = .ok v' w' ∧ Own w' b0 1 v' (n + s.length) ((xs ++ s).flatMap byC) ∧ Keeps (fun k => v.ownBlock = some k ∧ b0 ≤ k) w w' ∧
      (v'.ownBlock = v.ownBlock ∨ ∀ k, v'.ownBlock = some k → w.heap.size ≤ k) ∧ (∀ k, v'.ownBlock = some k → w.heap.size ≤ k → tyOf w' k = some e) := by
  rw [List.flatMap_append, ← byC_str s]
  have hsz : (B s).size = s.length := B_size s
  have hxl : (xs.flatMap byC).length = n := by have := hown.1; omega
  have grown : ∀ (old : Nat), old < n + s.length →
      let w' := w.drew.alloc (.cells ((xs.flatMap byC).toArray ++ (Lib.strCells (B s)).toArray ++ Builtin.zeroCells (Value.int .u8 0).cells (grownCap w (n + s.length) old e - (n + s.length))) e)
      let v' := Value.slice (some ⟨w.heap.size, 0, none⟩) (n + s.length) (grownCap w (n + s.length) old e)
      Own w' b0 1 v' (n + s.length) (xs.flatMap byC ++ Lib.strCells (B s)) ∧ Keeps (fun k => v.ownBlock = some k ∧ b0 ≤ k) w w' ∧ (∀ k, v'.ownBlock = some k → w.heap.size ≤ k) ∧ (∀ k, v'.ownBlock = some k → w.heap.size ≤ k → tyOf w' k = some e) := by
    intro old ho w' v'
    have hge := grownCap_ge w (n + s.length) old e
    have hcm : grownCap w (n + s.length) old e ≤ maxLen := grownCap_le_maxLen w (n + s.length) old e (by unfold maxLen; omega)
    have hlen : (xs.flatMap byC ++ Lib.strCells (B s)).length = (n + s.length) * 1 := by rw [List.length_append, hxl, Lib.strCells_length, hsz, Nat.mul_one]
    have hrow : w'.ownsRow b0 e 1 v' (n + s.length) (xs.flatMap byC ++ Lib.strCells (B s)) := by
      refine ⟨hlen, .inr ⟨w.heap.size, _, _, rfl, hb, heap_alloc_new w.drew _, hge, hcm, ?_, ?_⟩⟩
      · have hz1 : (Value.int IntKind.u8 0).cells.size = 1 := rfl
        simp only [Array.size_append, List.size_toArray, size_zeroCells, hz1, hxl, Lib.strCells_length, hsz]
        omega
      · simp only [Array.toList_append, List.append_assoc]
        rw [← List.append_assoc, ← hlen]
        exact List.take_left
    refine ⟨Own.of_row hrow (Nat.le_refl _), Keeps.of_below (below_alloc (below_drew (Below.refl _ _)) _), ?_, ?_⟩
    · intro k hk
      simp [v', Value.ownBlock] at hk
      omega
    · intro k hk _
      exact tyOf_row hrow hk
  rcases hown.2 with ⟨h0, hv⟩ | ⟨g, off, c', hv, g1, g2, g3, g4, g5, g6⟩
  · subst h0
    obtain rfl : xs = [] := by
      have := hxl
      rw [byC_flat] at this
      exact List.eq_nil_of_length_eq_zero this
    rcases Nat.eq_zero_or_pos s.length with hs | hs
    · obtain rfl := List.eq_nil_of_length_eq_zero hs
      have hf := Lib.run_firstCells_string (P := P) w 1 (B [])
      have hb0 : (B []).size = 0 := B_size []
      rw [hb0] at hf
      have hcs : Lib.strCells (B []) = [] := rfl
      rw [hcs] at hf
      have hf' : (Builtin.firstCells 1 0 (.string (B []))).run P w = .ok #[] w := by simpa using hf
      rcases hv with rfl | ⟨g, off, rfl, hg⟩
      · refine ⟨.slice none 0 0, w, ?_, Own.nil _ _ _, Keeps.refl _ _, .inl rfl, fun k hk => by simp [Value.ownBlock] at hk⟩
        simp [Builtin.append_, run_underlying ht, run_underlying hu, sizeOf, typeInfo, hi, hsize, Builtin.lenOf, hb0, hf']
      · refine ⟨.slice (some ⟨g, off, none⟩) 0 0, w, ?_, Own.none_ _ _ _ _ _ hg, Keeps.refl _ _, .inl rfl, fun k hk h => by simp [Value.ownBlock] at hk; omega⟩
        simp [Builtin.append_, run_underlying ht, run_underlying hu, sizeOf, typeInfo, hi, hsize, Builtin.lenOf, hb0, hf', storeCells]
    · obtain ⟨q1, q2, q3, q4⟩ := grown 0 (by omega)
      rcases hv with rfl | ⟨g, off, rfl, hg⟩
      · have hr := run_append_nil_string (P := P) w t u ty e i (.int .u8 0) ht hu hi hz (B s) (by rw [hsz]; omega) (by rw [hsz]; omega) (by rw [hby, hsz]; omega)
        have e1 : ((B s).data.map fun b => Value.int .u8 b.toNat) = (Lib.strCells (B s)).toArray := by
          apply Array.ext'
          simp [Lib.strCells]
        rw [e1, hsz] at hr
        simp only [Nat.zero_add, List.flatMap_nil, List.nil_append] at q1 q2 q3 q4 ⊢
        have e2 : (([] : List Value).toArray ++ (Lib.strCells (B s)).toArray) = (Lib.strCells (B s)).toArray := by simp
        rw [e2] at q1 q2 q4
        exact ⟨_, _, hr, q1, q2, .inr q3, q4⟩
      · have hr := Lib.run_append_grow_string (P := P) w t u ty e i (.int .u8 0) ht hu hi hz ⟨g, off, none⟩ 0 0 [] (by simp) (by simp) (B s) (by rw [hsz]; omega) (by rw [hsz]; omega) (by rw [hby, hsz]; exact growslice_fits (by omega) (by omega))
        rw [hsz] at hr
        exact ⟨_, _, hr, q1, q2, .inr q3, q4⟩
  · subst hv
    by_cases hroom : n + s.length ≤ c'
    · have hnl : (Lib.strCells (B s)).length = s.length := by rw [Lib.strCells_length, hsz]
      have hsome : ∀ j, j < (Lib.strCells (B s)).length → (w.cell? ⟨g, off + n * 1 + j, none⟩).isSome = true := fun j hj => by
        have := (g5 (n + j) (by omega)).1
        rwa [show off + (n + j) = off + n * 1 + j by omega] at this
      have hfro : ∀ j, j < (Lib.strCells (B s)).length → w.frozen? ⟨g, off + n * 1 + j, none⟩ = false := fun j hj => by
        have := (g5 (n + j) (by omega)).2
        rwa [show off + (n + j) = off + n * 1 + j by omega] at this
      have hfc := Lib.run_firstCells_string (P := P) w 1 (B s)
      have hst := run_storeCells_cells (P := P) g (off + n * 1) (Lib.strCells (B s)) 0 w (by simpa using hsome) (by simpa using hfro) (Lib.strCells_oneCell _)
      simp only [Nat.add_zero] at hst
      have hroom' : n + (B s).size ≤ c' := by rw [hsz]; exact hroom
      have hr : (Builtin.append_ #[t, u] ty #[.slice (some ⟨g, off, none⟩) n c', .string (B s)]).run P w = .ok (.slice (some ⟨g, off, none⟩) (n + s.length) c') (w.setCells g (off + n * 1) (Lib.strCells (B s))) := by
        rw [← hsz]
        simp [Builtin.append_, run_underlying ht, run_underlying hu, sizeOf, typeInfo, hi, hsize, Builtin.lenOf, hroom', hfc, Addr.add_lit]
        simp [Nat.mul_one] at hst
        simp [hst]
      have hsz' : (w.setCells g (off + n * 1) (Lib.strCells (B s))).heap.size = w.heap.size := World.size_setCells _ _ _ _
      refine ⟨_, _, hr, ⟨by rw [List.length_append, hxl, hnl]; omega, .inr ⟨g, off, c', rfl, g1, by rw [hsz']; exact g2, hroom, g4, fun j hj => ⟨?_, ?_⟩, fun j u hj => ?_⟩⟩, ?_, .inl rfl, fun k hk h => by simp [Value.ownBlock] at hk; omega⟩
      · exact World.isSome_setCells g _ _ w _ (g5 j hj).1
      · rw [World.frozen?_setCells]; exact (g5 j hj).2
      · by_cases hjx : j < (xs.flatMap byC).length
        · rw [List.getElem?_append_left hjx] at hj
          rw [World.cell?_setCells_out g _ _ w _ (fun _ _ => .inl (by dsimp only; omega))]
          exact g6 j u hj
        · rw [List.getElem?_append_right (by omega)] at hj
          have hjl := (List.getElem?_eq_some_iff.1 hj).1
          have := World.cell?_setCells_in g (Lib.strCells (B s)) (off + n * 1) w hsome (j - (xs.flatMap byC).length) hjl
          rw [show off + n * 1 + (j - (xs.flatMap byC).length) = off + j by omega] at this
          rw [this, ← hj]
          simp [List.getElem?_eq_getElem hjl]
      · refine ⟨World.os_setCells w g _ _, ?_, World.output_setCells w g _ _, by rw [hsz']; exact Nat.le_refl _, fun k hk hne => World.heap_setCells_other w g _ _ hk (fun e => hne ⟨by rw [e]; rfl, by omega⟩), fun k _ => tyOf_setCells w g _ _ k⟩
        exact World.tape_setCells w g _ _
    · obtain ⟨q1, q2, q3, q4⟩ := grown c' (by omega)
      have hr := Lib.run_append_grow_string (P := P) w t u ty e i (.int .u8 0) ht hu hi hz ⟨g, off, none⟩ n c' (xs.flatMap byC) (by rw [hsize]; omega) (fun j u hj => by rw [add_plain]; exact g6 j u hj) (B s) (by rw [hsz]; omega) (by rw [hsz]; omega) (by rw [hby, hsz]; exact growslice_fits (by omega) (by omega))
      rw [hsz] at hr
      exact ⟨_, _, hr, q1, q2, .inr q3, q4⟩
end
/-- 'string(b)' of an own slice of bytes. -/
theorem conv_by {w : World} {b0 n : Nat} {v : Value} {l : List UInt8} (h : Own w b0 1 v n (l.flatMap byC)) (hn : n = l.length) : (convert 68 9 v).run Tryz.prog w = .ok (.string (B l)) w := by
  subst hn
  rcases h.2 with ⟨h0, rfl | ⟨g, off, rfl, hg⟩⟩ | ⟨g, off, c, rfl, h1, h2, h3, h4, h5, h6⟩
  · have : l = [] := List.eq_nil_of_length_eq_zero h0
    subst this
    exact Lib.run_convert_nil_bytes w _ _ _ _ Tryz.underlying68 Tryz.underlying5 Tryz.underlying9
  · have : l = [] := List.eq_nil_of_length_eq_zero h0
    subst this
    have := Lib.run_convert_whole (P := Tryz.prog) w _ _ _ Tryz.underlying68 Tryz.underlying5 Tryz.underlying9 g off (B []) (fun i hi => by rw [B_size] at hi; simp at hi) 0
    rw [B_size] at this
    exact this
  · have := Lib.run_convert_whole (P := Tryz.prog) w _ _ _ Tryz.underlying68 Tryz.underlying5 Tryz.underlying9 g off (B l) (fun i hi => by
      rw [B_size] at hi
      refine h6 i _ ?_
      rw [byC_get, List.getElem?_eq_getElem hi]
      rfl) c
    rwa [B_size] at this
theorem info_u8 : (Tryz.prog.info? 5).map (fun i => (i.zero, i.size, i.bytes)) = some (some (.int .u8 0), 1, 1) := by kernel_rfl
end Go.Proofs.YtadaeecokkokjaaGreat
