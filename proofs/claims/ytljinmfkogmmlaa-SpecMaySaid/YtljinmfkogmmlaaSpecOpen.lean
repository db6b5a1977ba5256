/-
  A spec as a law's argument, opened. Conditions: none (arguments as the row reads them).
-/
import Derived.Test.YtljinmfkogmmlaaSpecL
import Derived.Test.YtljinmfkogmmlaaOpen
import Derived.Lib.SmallJoins
namespace Go.Proofs.Ytljinmfkogmmlaa.Spc
open Go.ChangeShapes Go.WideShapes Go.Deep Go.ChangeAt Go.RowKit Mc Pa
set_option linter.unusedSimpArgs false
set_option linter.unusedVariables false
set_option maxRecDepth 100000
section
variable {H : Type} {enc : TypeId × Value → H} {P : Program} {w : World}
theorem array6 {α : Type} {cs : Array α} (h : cs.size = 6) : ∃ c0 c1 c2 c3 c4 c5, cs = #[c0, c1, c2, c3, c4, c5] := by
  obtain ⟨l⟩ := cs
  match l, h with
  | [c0, c1, c2, c3, c4, c5], _ => exact ⟨c0, c1, c2, c3, c4, c5, rfl⟩
/-- A slice in a field, opened: every element is decoded. -/
theorem open_slf {α : Type} (en : α → List Value) (Ok : α → Prop) {t e : TypeId} {sz fuel : Nat} {v : Value} {y : DataW H × List MemPlace} (ht : P.underlying t = some (.slice e)) (hC : P.cellsOf e = sz) (hsz : 0 < sz)
    (dec : ∀ {fuel cs d}, DataW.trod enc P w 0 (fun _ => true) true fuel e cs = some d → ∃ x, cs = en x ∧ Ok x)
    (hf : DataW.trod enc P w 0 (fun _ => true) true fuel t [v] = some y) : ∃ xs, Sl w en sz v xs ∧ (∀ x ∈ xs, Ok x) ∧ xs.length ≤ 9223372036854775807 := by
  rcases open_slice ht hf with ⟨h0, _⟩ | ⟨a, len', cap', m, n, D, Pl, h0, _, hl, hm, hmm, _, hi⟩
  · simp at h0
    subst h0
    exact ⟨[], Sl.nil w en sz, by simp, by simp⟩
  · simp at h0
    subst h0
    have hml : len' ≤ m := by rw [hmm]; simp; omega
    obtain ⟨xs, hxl, hx⟩ := list_of (R := fun i x => Ok x ∧ ∀ j u, (en x)[j]? = some u → w.cell? ((a.add (i * sz)).add j) = some u) len' (fun i hil => by
      obtain ⟨cs', hc, htr⟩ := hi i (by omega)
      rw [hC] at hc
      obtain ⟨_, hcl, hat⟩ := World.cells?_some hc
      obtain ⟨x, rfl, hok⟩ := dec htr
      refine ⟨x, hok, fun j u hj => ?_⟩
      have hjl : j < (en x).length := (List.getElem?_eq_some_iff.1 hj).1
      rw [hat j (by omega), hj])
    refine ⟨xs, ?_, fun x hxm => ?_, by unfold maxLen at hm; omega⟩
    · refine ⟨some a, cap', by rw [hxl], by omega, by unfold maxLen at hm; omega, (fun h => by cases h), fun h0 => ?_⟩
      obtain ⟨cs0, hc0, htr0⟩ := hi 0 (by omega)
      rw [hC] at hc0
      obtain ⟨_, hcl0, hat0⟩ := World.cells?_some hc0
      obtain ⟨b, off, spot⟩ := a
      have hcell0 := hat0 0 hsz
      have h00 : cs0[0]? = some (cs0[0]'(by omega)) := List.getElem?_eq_getElem (by omega)
      rw [h00] at hcell0
      have hspot : spot = none := by simpa [Addr.add] using World.cell?_spot hcell0
      subst hspot
      have hlt := World.block_lt_of_cell? w _ hcell0
      rw [add_plain, add_plain] at hlt
      refine ⟨b, off, rfl, hlt, fun k x hk j u hj => ?_⟩
      have := (hx k x hk).2 j u hj
      rwa [add_add, add_plain, ← Nat.add_assoc] at this
    · obtain ⟨k, hk⟩ := List.mem_iff_getElem?.1 hxm
      exact (hx k x hk).1
theorem open_agg6 {r : Reach} {b0 : Nat} {t : TypeId} {f0 f1 f2 f3 f4 f5 : Field} {v : Value} {d : DataW H} {p : List MemPlace} (hs : P.underlying t = some (.struct #[f0, f1, f2, f3, f4, f5])) (hone : oneCellFields P #[f0, f1, f2, f3, f4, f5] = true) (hC : P.cellsOf t = 6)
    (hv : Value.okWide P w r b0 t v) (h : DataW.Trod enc P w 0 (fun _ => true) true t v d p) :
    ∃ (v0 v1 v2 v3 v4 v5 : Value) (y0 y1 y2 y3 y4 y5 : DataW H × List MemPlace) (n : Nat), v = .agg #[v0, v1, v2, v3, v4, v5] ∧
      DataW.trod enc P w 0 (fun _ => true) true n f0.type [v0] = some y0 ∧ DataW.trod enc P w 0 (fun _ => true) true n f1.type [v1] = some y1 ∧ DataW.trod enc P w 0 (fun _ => true) true n f2.type [v2] = some y2 ∧ DataW.trod enc P w 0 (fun _ => true) true n f3.type [v3] = some y3 ∧ DataW.trod enc P w 0 (fun _ => true) true n f4.type [v4] = some y4 ∧ DataW.trod enc P w 0 (fun _ => true) true n f5.type [v5] = some y5 := by
  obtain ⟨cs, rfl, hsz⟩ := okWide_struct hs hv
  obtain ⟨c0, c1, c2, c3, c4, c5, rfl⟩ := array6 (hsz.trans hC)
  obtain ⟨fuel, hf⟩ := h
  obtain ⟨xs, n, _, hx, _, hlen, hg⟩ := DataW.trod_struct hs hf
  obtain ⟨o0, k0⟩ := hone_of hone 0 f0 rfl
  obtain ⟨o1, k1⟩ := hone_of hone 1 f1 rfl
  obtain ⟨o2, k2⟩ := hone_of hone 2 f2 rfl
  obtain ⟨o3, k3⟩ := hone_of hone 3 f3 rfl
  obtain ⟨o4, k4⟩ := hone_of hone 4 f4 rfl
  obtain ⟨o5, k5⟩ := hone_of hone 5 f5 rfl
  match xs, hlen with
  | [y0, y1, y2, y3, y4, y5], _ =>
    exact ⟨c0, c1, c2, c3, c4, c5, y0, y1, y2, y3, y4, y5, n, rfl, by simpa [Value.cells, o0, k0] using hg 0 f0 rfl, by simpa [Value.cells, o1, k1] using hg 1 f1 rfl, by simpa [Value.cells, o2, k2] using hg 2 f2 rfl, by simpa [Value.cells, o3, k3] using hg 3 f3 rfl, by simpa [Value.cells, o4, k4] using hg 4 f4 rfl, by simpa [Value.cells, o5, k5] using hg 5 f5 rfl⟩
end
theorem sstr_cells : Try.prog.cellsOf 9 = 1 := by kernel_rfl
theorem sint_cells : Try.prog.cellsOf 3 = 1 := by kernel_rfl
theorem spec_cells : Try.prog.cellsOf 25 = 6 := by kernel_rfl
theorem sstr_dec {H : Type} {enc : TypeId × Value → H} {w : World} {fuel : Nat} {cs : List Value} {d : DataW H × List MemPlace}
    (h : DataW.trod enc Try.prog w 0 (fun _ => true) true fuel 9 cs = some d) : ∃ x : List UInt8, cs = strC x ∧ x.length ≤ 9223372036854775807 := by
  obtain ⟨s1, e1, _, w1⟩ := DataW.trod_string Try.underlying9 h
  obtain ⟨a, rfl⟩ := B_all s1
  rw [B_size] at w1
  exact ⟨a, e1, w1⟩
theorem sint_dec {H : Type} {enc : TypeId × Value → H} {w : World} {fuel : Nat} {cs : List Value} {d : DataW H × List MemPlace}
    (h : DataW.trod enc Try.prog w 0 (fun _ => true) true fuel 3 cs = some d) : ∃ x : Int, cs = numC x ∧ True := by
  obtain ⟨n, e0, _, _⟩ := DataW.trod_int Try.underlying3 h
  exact ⟨n, e0, trivial⟩
/-- A spec comes in. -/
theorem open_spec {H : Type} {enc : TypeId × Value → H} {w : World} {base : Nat} {d : DataW H} {p : List MemPlace} {v : Value}
    (h : DataW.Trod enc Try.prog w 0 (fun _ => true) true 25 v d p) (k : Value.okWide Try.prog w .any base 25 v) :
    ∃ (va vw : Value) (x : Sp), v = spV va vw x ∧ Sl w numC 1 va x.a ∧ Sl w strC 1 vw x.w ∧ x.a.length ≤ 9223372036854775807 ∧ x.w.length ≤ 9223372036854775807 := by
  obtain ⟨v0, v1, v2, v3, v4, v5, y0, y1, y2, y3, y4, y5, n, rfl, h0, h1, h2, h3, h4, h5⟩ := open_agg6 Try.underlying25 (by kernel_rfl) spec_cells k h
  obtain ⟨xa, ha, _, la⟩ := open_slf numC (fun _ => True) Try.underlying22 sint_cells (by omega) sint_dec h0
  obtain ⟨xw, hw, _, lw⟩ := open_slf strC (fun x => x.length ≤ 9223372036854775807) Try.underlying23 sstr_cells (by omega) sstr_dec h1
  obtain ⟨g, e2, _⟩ := sstr_dec h2
  obtain ⟨x, e3, _⟩ := sstr_dec h3
  obtain ⟨p4, e4, _⟩ := sstr_dec h4
  obtain ⟨s5, e5, _⟩ := sstr_dec h5
  simp [strC] at e2 e3 e4 e5
  subst e2 e3 e4 e5
  exact ⟨v0, v1, ⟨xa, xw, g, x, p4, s5⟩, rfl, ha, hw, la, lw⟩
end Go.Proofs.Ytljinmfkogmmlaa.Spc
