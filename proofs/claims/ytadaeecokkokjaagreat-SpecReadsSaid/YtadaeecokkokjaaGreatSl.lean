/-
  Slices that come in, read as lists: one word for nil, empty and other slices, whatever the elements. No program in sight.
-/
import Derived.Test.YtadaeecokkokjaaGreatRows
import Derived.Test.YtadaeecokkokjaaGreatBase
import Derived.ProofKit
import Derived.OpenShut
import Derived.ShutString
import Derived.Deep.Slices
import Derived.ChangeSame
set_option linter.unusedSimpArgs false
set_option linter.unusedVariables false
namespace Go.Proofs.YtadaeecokkokjaaGreat
open Go.ChangeShapes Go.WideShapes Go.ChangeAt Go.RowKit
theorem own : ownKnob Tryz.prog.godebug = none := by kernel_rfl
theorem laidOut : laidOutB Tryz.prog = true := by kernel_rfl
section
variable {H : Type} {enc : TypeId × Value → H} {P : Program}
theorem trodAll_stays (hl : laidOutB P = true) {W W' : World} (hb : Below W.heap.size W W') : ∀ {ts : List TypeId} {vs : List Value} {ds : List (DataW H)} {ps : List MemPlace},
    (ts.all fun t => P.readableRec t && decide (t < P.types.size)) = true → DataW.TrodAll enc P W 0 (fun _ => true) true ts vs ds ps → (∀ x ∈ ps, x.block < W.heap.size) →
    DataW.TrodAll enc P W' 0 (fun b => decide (b < W.heap.size)) true ts vs ds ps
  | [], [], [], _, _, h, _ => h
  | _ :: _, _ :: _, _ :: _, _, ht, ⟨p, q, h1, h2, e⟩, hlt => by
    simp only [List.all_cons, Bool.and_eq_true, decide_eq_true_eq] at ht
    refine ⟨p, q, Below.trod hl ht.1.1 ht.1.2 h1 hb (fun x hx => hlt x (by rw [e]; exact List.mem_append_left _ hx)), trodAll_stays hl hb (by simpa using ht.2) h2 (fun x hx => hlt x (by rw [e]; exact List.mem_append_right _ hx)), e⟩
theorem law_post {f : Func} {s : ChangeSpec} {W W' : World} {args : Array Value} {ds : List (DataW H)} {before : List MemPlace} {tb : TypeId}
    (hl : laidOutB P = true) (hts : (f.params.toList.all fun t => P.readableRec t && decide (t < P.types.size)) = true) (hrt : f.resultTypes = #[tb]) (htb : P.underlying tb = some .bool)
    (hvs : s.vars = []) (hfn : s.fn H (ds ++ []) = { results := [.lit (.bool true)], args := ds })
    (hW : DataW.Whole enc P f.params.toList s.vars false W args.toList ds [] before) (hb : Below W.heap.size W W') :
    s.post enc P f false true false false W args (.bool true) W' := by
  have hW' := hW
  obtain ⟨p, q, hA, hV, rfl, _, _⟩ := hW
  rw [hvs] at hV
  obtain rfl : q = [] := hV
  have hlt : ∀ x ∈ p, x.block < W.heap.size := fun x hx => by simpa using hW'.lt x (List.mem_append_left _ hx)
  refine ⟨ds, [], _, [], p, [], hW', ?_, ?_, ?_, hb.frame _, fun h => Bool.noConfusion h⟩
  · rw [hfn, hrt]
    exact trodAll_cons_mk (shut_bool htb true) trodAll_mk0
  · rw [hfn]
    exact trodAll_stays hl hb hts hA hlt
  · rw [hfn, hvs]
    exact rfl
end
end Go.Proofs.YtadaeecokkokjaaGreat
namespace Go.Proofs.YtadaeecokkokjaaGreat
open Go.ChangeShapes Go.WideShapes Go.Deep Go.RowKit
/-- The slice value v reads as the list xs; the element x has the cells en x, sz of them. -/
def Sl (w : World) {α : Type} (en : α → List Value) (sz : Nat) (v : Value) (xs : List α) : Prop :=
  ∃ A c, v = .slice A xs.length c ∧ xs.length ≤ c ∧ c ≤ 9223372036854775807 ∧ (A = none → c = 0) ∧ (0 < xs.length → ∃ b off, A = some ⟨b, off, none⟩ ∧ b < w.heap.size ∧ ∀ k x, xs[k]? = some x → ∀ j u, (en x)[j]? = some u → w.cell? ⟨b, off + k * sz + j, none⟩ = some u)
section
variable {w w' : World} {α : Type} {en : α → List Value} {sz : Nat} {v : Value} {xs : List α}
theorem Sl.below (h : Sl w en sz v xs) (hb : Below w.heap.size w w') : Sl w' en sz v xs := by
  obtain ⟨A, c, h1, h2, h3, hn, h4⟩ := h
  refine ⟨A, c, h1, h2, h3, hn, fun h => ?_⟩
  obtain ⟨b, off, e, hlt, hc⟩ := h4 h
  exact ⟨b, off, e, Nat.lt_of_lt_of_le hlt hb.size, fun k x hk j u hj => (hb.cell (p := ⟨b, _, none⟩) hlt).trans (hc k x hk j u hj)⟩
theorem Sl.nil (w : World) (en : α → List Value) (sz : Nat) : Sl w en sz (.slice none 0 0) ([] : List α) := ⟨none, 0, rfl, by simp, by simp, fun _ => rfl, by simp⟩
end
theorem Sl.kept {w w' : World} {α : Type} {en : α → List Value} {sz : Nat} {v : Value} {xs : List α} {row : Option Nat} (h : Sl w en sz v xs) (hg : w.grownBy w' row) (hne : v.ownBlock ≠ row ∨ v.ownBlock = none) : Sl w' en sz v xs := by
  obtain ⟨A, c, h1, h2, h3, hn, h4⟩ := h
  refine ⟨A, c, h1, h2, h3, hn, fun h => ?_⟩
  obtain ⟨b, off, e, hlt, hc⟩ := h4 h
  have hb : w'.heap[b]? = w.heap[b]? := hg.block b hlt (by
    subst e; subst h1
    rcases hne with hne | hne
    · simpa [Value.ownBlock] using hne
    · simp [Value.ownBlock] at hne)
  exact ⟨b, off, e, Nat.lt_of_lt_of_le hlt hg.size, fun k x hk j u hj => (World.cell?_of_block (w := w) hb).trans (hc k x hk j u hj)⟩
theorem flat_cells {w : World} {α : Type} {en : α → List Value} {sz b : Nat} : ∀ (xs : List α) (off : Nat), (∀ x ∈ xs, (en x).length = sz) → (∀ k x, xs[k]? = some x → ∀ j u, (en x)[j]? = some u → w.cell? ⟨b, off + k * sz + j, none⟩ = some u) →
    ∀ j u, (xs.flatMap en)[j]? = some u → w.cell? ⟨b, off + j, none⟩ = some u
  | [], _, _, _, j, u, h => by simp at h
  | y :: ys, off, hen, hc, j, u, h => by
    simp only [List.flatMap_cons] at h
    have hy := hen y (by simp)
    by_cases hj : j < sz
    · rw [List.getElem?_append_left (by omega)] at h
      have := hc 0 y (by simp) j u h
      simpa using this
    · rw [List.getElem?_append_right (by omega), hy] at h
      have := flat_cells ys (off + sz) (fun x hx => hen x (by simp [hx])) (fun k x hk j u hj => by
        have := hc (k + 1) x (by simpa using hk) j u hj
        rwa [Nat.add_mul, Nat.one_mul, show off + (k * sz + sz) + j = off + sz + k * sz + j by omega] at this) (j - sz) u h
      rwa [show off + sz + (j - sz) = off + j by omega] at this
section
variable {H : Type} {enc : TypeId × Value → H} {P : Program} {w : World}
end
end Go.Proofs.YtadaeecokkokjaaGreat
