/-
  Maps from numbers to numbers. Conditions: keys of at most 2^31.
-/
import Derived.Test.YtadaeecokkokjaaGreatProg
import Derived.Test.YtadaeecokkokjaaGreatOwn
import Derived.Maps.OwnSet
import Derived.Maps.Views
set_option linter.unusedSimpArgs false
set_option linter.unusedVariables false
namespace Go.Proofs.YtadaeecokkokjaaGreat.NM
open Go.ChangeShapes Go.WideShapes Go.Deep Go.RowKit Go.MapKept Go.WideMaps Go.ChangeMaps
set_option maxRecDepth 100000
/-- How a number reads. -/
def numR : Value → Option (DataW Unit × List MemPlace)
  | .int .i64 z => some (.lit (.int .i64 z), [])
  | _ => none
theorem numR_inv {v : Value} {z : Int} {ps : List MemPlace} (h : numR v = some (.lit (.int .i64 z), ps)) : v = .int .i64 z := by
  unfold numR at h
  split at h
  · simp at h
    rw [h.1]
  · cases h
theorem keyedI : Maps.Keyed Tryz.prog 3 := Maps.int_keyed Tryz.underlying3
theorem wfI (a : Nat) (h : a ≤ 2147483648) : (Lit.int .i64 (a : Int)).wf = true := by
  have h1 : IntKind.i64.min = -9223372036854775808 := by decide
  have h2 : IntKind.i64.max = 9223372036854775807 := by decide
  show (decide (IntKind.i64.min ≤ (a : Int)) && decide ((a : Int) ≤ IntKind.i64.max)) = true
  rw [h1, h2]
  simp
  omega
theorem keyI (a : Nat) (h : a ≤ 2147483648) : keyOf Tryz.prog 3 (.int .i64 a) = some (.int .i64 a) := Maps.keyOf_int_mk Tryz.underlying3 (wfI a h)
theorem zeroI (w : World) : (zeroValue 3).run Tryz.prog w = .ok (.int .i64 0) w := by kernel_rfl
/-- The block r is a map of at most c numbers, that leads each number to that of g; to 0, where it has none. -/
structure NumsAt (w : World) (r : Nat) (g : Nat → Nat) (c : Nat) : Prop where
  m : ∃ D, w.ownsMap Tryz.prog 3 numR r (Maps.size D) D ∧ Maps.size D ≤ c ∧ ∀ a : Nat, D.atKey (.int .i64 a) (.lit (.int .i64 0)) = .lit (.int .i64 (g a))
theorem NumsAt.lt {w : World} {r c : Nat} {g : Nat → Nat} (h : NumsAt w r g c) : r < w.heap.size := by obtain ⟨D, h1, _⟩ := h.m; exact h1.lt
theorem NumsAt.block {w w' : World} {r c : Nat} {g : Nat → Nat} (h : NumsAt w r g c) (hb : w'.heap[r]? = w.heap[r]?) : NumsAt w' r g c := by
  obtain ⟨D, ⟨es, ck, k1, k2⟩, h2⟩ := h.m
  exact ⟨⟨D, ⟨es, ck, hb.trans k1, k2⟩, h2⟩⟩
theorem NumsAt.keeps {F : Nat → Prop} {w w' : World} {r c : Nat} {g : Nat → Nat} (h : NumsAt w r g c) (hk : Keeps F w w') (hF : ¬ F r) : NumsAt w' r g c := h.block (hk.block r h.lt hF)
theorem NumsAt.below {w w' : World} {r c : Nat} {g : Nat → Nat} (h : NumsAt w r g c) (hb : Below w.heap.size w w') : NumsAt w' r g c := h.block (hb.block r h.lt)
theorem NumsAt.new (w : World) : NumsAt (w.alloc (.map #[] 0)) w.heap.size (fun _ => 0) 0 :=
  ⟨⟨.map [], World.ownsMap_made w Tryz.prog 3 numR, Nat.le_refl _, fun a => rfl⟩⟩
/-- m[a]. -/
theorem NumsAt.look {w : World} {r c : Nat} {g : Nat → Nat} (h : NumsAt w r g c) (a : Nat) (ha : a ≤ 2147483648) : (Instr.lookup 105 (.map (some r)) (.int .i64 a) false).run Tryz.prog w = .ok (.int .i64 (g a)) w := by
  obtain ⟨D, h1, h2, h3⟩ := h.m
  obtain ⟨v, ps, hr, hv⟩ := h1.lookup (t := 105) (e := 3) keyedI Tryz.underlying105 (zeroI w) (zd := .lit (.int .i64 0)) (zp := []) rfl (keyI a ha)
  rw [h3] at hv
  rw [hr, numR_inv hv]
theorem size_same {w : World} {P : Program} {k : TypeId} {R : Value → Option (DataW Unit × List MemPlace)} {b n : Nat} {D : DataW Unit} (h : w.ownsMap P k R b n D) : w.ownsMap P k R b (Maps.size D) D := by
  obtain ⟨es, ck, h1, h2, h3, rfl⟩ := h
  exact ⟨es, ck, h1, h2, by simp [Maps.size, length_sorted], rfl⟩
/-- m[a] = b. -/
theorem NumsAt.put {w : World} {r c : Nat} {g : Nat → Nat} (h : NumsAt w r g c) (a b : Nat) (ha : a ≤ 2147483648) (hc : c < 1099511627776) :
    ∃ w', (Instr.mapUpdate 105 (.map (some r)) (.int .i64 a) (.int .i64 b)).run Tryz.prog w = .ok () w' ∧ NumsAt w' r (fun x => if x = a then b else g x) (c + 1) ∧ w.mapTurned w' r := by
  obtain ⟨D, h1, h2, h3⟩ := h.m
  obtain ⟨w', hr, ho, ht⟩ := h1.store (t := 105) (e := 3) keyedI Tryz.underlying105 (by unfold maxLen; omega) (keyI a ha) (show numR (.int .i64 b) = some (.lit (.int .i64 b), []) from rfl)
  have hz : Maps.size (D.put (.int .i64 a) (.lit (.int .i64 b))) ≤ c + 1 := by
    rw [Maps.size_put (h1.tidy keyedI)]
    split <;> omega
  refine ⟨w', hr, ⟨⟨_, size_same ho, hz, fun x => ?_⟩⟩, ht⟩
  by_cases e : x = a
  · subst e; rw [if_pos rfl, Maps.atKey_put_same (h1.isMap) (by first | trivial | simp [WideAt.IsKeyLit])]
  · rw [if_neg e, Maps.atKey_put_other (by simp; omega), h3]
end Go.Proofs.YtadaeecokkokjaaGreat.NM
