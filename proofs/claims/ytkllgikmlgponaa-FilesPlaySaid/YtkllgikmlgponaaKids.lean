/-
  Maps from names to blocks: what a map of pointers holds, read, written, struck out. Conditions: names of at most 2^30 bytes.
-/
import Derived.Test.YtkllgikmlgponaaProg
import Derived.Test.YtkllgikmlgponaaOwn
import Derived.Maps.OwnSet
import Derived.Maps.Views
import Derived.Maps.RangeWalk
import Derived.StringKeys
namespace Go.Proofs.Ytkllgikmlgponaa.Fil
open Go.ChangeShapes Go.WideShapes Go.Deep Go.RowKit Go.MapKept Go.WideMaps Go.ChangeMaps
set_option maxRecDepth 100000
/-- How a pointer to a block reads. -/
def ptrR : Value → Option (DataW Unit × List MemPlace)
  | .pointer none => some (.lit (.bool false), [])
  | .pointer (some ⟨b, 0, none⟩) => some (.lit (.int .i64 b), [])
  | _ => none
def ptrD : Option Nat → DataW Unit
  | none => .lit (.bool false)
  | some b => .lit (.int .i64 b)
def ptrV : Option Nat → Value
  | none => .pointer none
  | some b => .pointer (some ⟨b, 0, none⟩)
theorem ptrR_V (o : Option Nat) : ptrR (ptrV o) = some (ptrD o, []) := by cases o <;> rfl
theorem ptrR_inv {v : Value} {o : Option Nat} {ps : List MemPlace} (h : ptrR v = some (ptrD o, ps)) : v = ptrV o := by
  unfold ptrR at h
  split at h
  · cases o with
    | none => rfl
    | some b => simp [ptrD] at h
  · cases o with
    | none => simp [ptrD] at h
    | some b =>
      simp [ptrD] at h
      have h1 := Int.ofNat_inj.1 h.1
      rw [h1]; rfl
  · cases h
theorem keyedS : Maps.Keyed Try.prog 9 := Maps.string_keyed Try.underlying9
theorem keyS (a : List UInt8) (h : a.length ≤ 1073741824) : keyOf Try.prog 9 (.string (B a)) = some (.string a) := by
  rw [keyOf_string_mk Try.underlying9 (by rw [B_size]; unfold maxLen; omega), B_data]
theorem keyS_inv {v : Value} {kl : Lit} (h : keyOf Try.prog 9 v = some kl) : ∃ a, v = .string (B a) ∧ kl = .string a := by
  rw [keyOf_string Try.underlying9] at h
  cases v with
  | string s =>
    obtain ⟨a, rfl⟩ := B_all s
    simp [mapKey, Try.underlying9] at h
    exact ⟨a, rfl, by rw [← h.2, B_data]⟩
  | _ => simp [mapKey, Try.underlying9] at h
theorem keyLit (a : List UInt8) : WideAt.IsKeyLit (.string a) := by first | trivial | simp [WideAt.IsKeyLit]
theorem zeroPtr (w : World) : (zeroValue 97).run Try.prog w = .ok (.pointer none) w := by kernel_rfl
theorem eqlSome (r : Nat) (w : World) : (binOp .eql 104 (.map (some r)) (.map none)).run Try.prog w = .ok (.bool false) w := by kernel_rfl
theorem eqlNil (w : World) : (binOp .eql 104 (.map none) (.map none)).run Try.prog w = .ok (.bool true) w := by kernel_rfl
/-- The block r is a map of c names, that leads each name of g to its block, and has no other. -/
structure KidsAt (w : World) (r : Nat) (g : List UInt8 → Option Nat) (c : Nat) : Prop where
  m : ∃ D, w.ownsMap Try.prog 9 ptrR r c D ∧ Maps.size D = c ∧ (∀ a, D.atKey (.string a) (ptrD none) = ptrD (g a)) ∧ (∀ a, Maps.has D (.string a) = (g a).isSome) ∧ (∀ kl, Maps.has D kl = true → ∃ a, kl = .string a)
  s : ∀ a, (g a).isSome = true → a.length ≤ 1073741824
theorem KidsAt.lt {w : World} {r c : Nat} {g : List UInt8 → Option Nat} (h : KidsAt w r g c) : r < w.heap.size := by obtain ⟨D, h1, _⟩ := h.m; exact h1.lt
theorem KidsAt.block {w w' : World} {r c : Nat} {g : List UInt8 → Option Nat} (h : KidsAt w r g c) (hb : w'.heap[r]? = w.heap[r]?) : KidsAt w' r g c := by
  obtain ⟨D, ⟨es, ck, k1, k2⟩, h2⟩ := h.m
  exact ⟨⟨D, ⟨es, ck, hb.trans k1, k2⟩, h2⟩, h.s⟩
theorem KidsAt.keeps {F : Nat → Prop} {w w' : World} {r c : Nat} {g : List UInt8 → Option Nat} (h : KidsAt w r g c) (hk : Keeps F w w') (hF : ¬ F r) : KidsAt w' r g c := h.block (hk.block r h.lt hF)
theorem KidsAt.below {w w' : World} {r c : Nat} {g : List UInt8 → Option Nat} (h : KidsAt w r g c) (hb : Below w.heap.size w w') : KidsAt w' r g c := h.block (hb.block r h.lt)
theorem KidsAt.new (w : World) : KidsAt (w.alloc (.map #[] 0)) w.heap.size (fun _ => none) 0 :=
  ⟨⟨.map [], World.ownsMap_made w Try.prog 9 ptrR, rfl, fun a => rfl, fun a => rfl, fun kl h => by cases h⟩, fun a h => by cases h⟩
/-- kids[a]. -/
theorem KidsAt.look {w : World} {r c : Nat} {g : List UInt8 → Option Nat} (h : KidsAt w r g c) (a : List UInt8) (ha : a.length ≤ 1073741824) : (Instr.lookup 104 (.map (some r)) (.string (B a)) false).run Try.prog w = .ok (ptrV (g a)) w := by
  obtain ⟨D, h1, h2, h3, h4, h5⟩ := h.m
  obtain ⟨v, ps, hr, hv⟩ := h1.lookup (t := 104) (e := 97) keyedS Try.underlying104 (zeroPtr w) (zd := ptrD none) (zp := []) rfl (keyS a ha)
  rw [h3] at hv
  rw [hr, ptrR_inv hv]
theorem look_nil (w : World) (a : List UInt8) (ha : a.length ≤ 1073741824) : (Instr.lookup 104 (.map none) (.string (B a)) false).run Try.prog w = .ok (ptrV none) w :=
  Maps.look_nil (e := 97) false keyedS Try.underlying104 (zeroPtr w) (keyS a ha)
theorem size_same {w : World} {P : Program} {k : TypeId} {R : Value → Option (DataW Unit × List MemPlace)} {b n : Nat} {D : DataW Unit} (h : w.ownsMap P k R b n D) : w.ownsMap P k R b (Maps.size D) D := by
  obtain ⟨es, ck, h1, h2, h3, rfl⟩ := h
  exact ⟨es, ck, h1, h2, by simp [Maps.size, length_sorted], rfl⟩
/-- kids[a] = &node, of a new name. -/
theorem KidsAt.put {w : World} {r c b : Nat} {g : List UInt8 → Option Nat} (h : KidsAt w r g c) (a : List UInt8) (ha : a.length ≤ 1073741824) (hn : g a = none) (hc : c < 1099511627776) :
    ∃ w', (Instr.mapUpdate 104 (.map (some r)) (.string (B a)) (.pointer (some ⟨b, 0, none⟩))).run Try.prog w = .ok () w' ∧ KidsAt w' r (fun x => if x = a then some b else g x) (c + 1) ∧ w.mapTurned w' r := by
  obtain ⟨D, h1, h2, h3, h4, h5⟩ := h.m
  obtain ⟨w', hr, ho, ht⟩ := h1.store (t := 104) (e := 97) keyedS Try.underlying104 (by unfold maxLen; omega) (keyS a ha) (ptrR_V (some b))
  have hz : Maps.size (D.put (.string a) (ptrD (some b))) = c + 1 := by
    rw [Maps.size_put (h1.tidy keyedS), h4, hn, h2]; rfl
  refine ⟨w', hr, ⟨⟨_, by have := size_same ho; rwa [hz] at this, hz, fun x => ?_, fun x => ?_, fun kl hk => ?_⟩, fun x hx => ?_⟩, ht⟩
  · by_cases e : x = a
    · subst e; rw [if_pos rfl, Maps.atKey_put_same (h1.isMap) (keyLit x)]
    · rw [if_neg e, Maps.atKey_put_other (by simpa using e), h3]
  · by_cases e : x = a
    · subst e; rw [if_pos rfl, Maps.has_put_same (h1.isMap) (keyLit x)]; rfl
    · rw [if_neg e, Maps.has_put_other (by simpa using e), h4]
  · by_cases e : kl = .string a
    · exact ⟨a, e⟩
    · rw [Maps.has_put_other e] at hk; exact h5 kl hk
  · by_cases e : x = a
    · subst e; exact ha
    · rw [if_neg e] at hx; exact h.s x hx
/-- delete(kids, a), of a name that is there. -/
theorem KidsAt.del {w : World} {r c : Nat} {g : List UInt8 → Option Nat} (h : KidsAt w r g c) (a : List UInt8) (ha : a.length ≤ 1073741824) (hn : (g a).isSome = true) (ty : TypeId) :
    ∃ w', (Builtin.delete_ #[104, 9] ty #[.map (some r), .string (B a)]).run Try.prog w = .ok (.tuple #[]) w' ∧ KidsAt w' r (fun x => if x = a then none else g x) (c - 1) ∧ w.mapTurned w' r := by
  obtain ⟨D, h1, h2, h3, h4, h5⟩ := h.m
  obtain ⟨w', hr, ho, ht⟩ := h1.drop (t := 104) (e := 97) keyedS Try.underlying104 (keyS a ha) ty
  have hz : Maps.size (D.del (.string a)) = c - 1 := by
    have := Maps.size_del (k := .string a) (h1.tidy keyedS)
    rw [h4, hn, h2] at this
    simp at this
    omega
  refine ⟨w', hr, ⟨⟨_, by have := size_same ho; rwa [hz] at this, hz, fun x => ?_, fun x => ?_, fun kl hk => ?_⟩, fun x hx => ?_⟩, ht⟩
  · by_cases e : x = a
    · subst e; rw [if_pos rfl, Maps.atKey_del_same]
    · rw [if_neg e, Maps.atKey_del_other (by simpa using e), h3]
  · by_cases e : x = a
    · subst e; rw [if_pos rfl, Maps.has_del_same]; rfl
    · rw [if_neg e, Maps.has_del_other (by simpa using e), h4]
  · by_cases e : kl = .string a
    · exact ⟨a, e⟩
    · rw [Maps.has_del_other e] at hk; exact h5 kl hk
  · by_cases e : x = a
    · subst e; exact ha
    · rw [if_neg e] at hx; exact h.s x hx
theorem KidsAt.len {w : World} {r c : Nat} {g : List UInt8 → Option Nat} (h : KidsAt w r g c) (ty : TypeId) : (Builtin.len_ #[104] ty #[.map (some r)]).run Try.prog w = .ok (.int .i64 c) w := by
  obtain ⟨D, h1, h2, _⟩ := h.m
  rw [h1.len (e := 97) Try.underlying104 ty, h2]
/-- What a store into a map leaves. -/
theorem keeps_turned {w w' : World} {r : Nat} (h : w.mapTurned w' r) : Keeps (fun k => k = r) w w' := by
  have hg := h.grown
  refine ⟨hg.os, hg.tape, hg.output, hg.size, fun k hk hF => hg.block k hk (fun e => hF (Option.some.inj e)), fun k hk => ?_⟩
  by_cases e : k = r
  · subst e
    obtain ⟨es, ck, es', ck', h1, rfl⟩ := h
    unfold tyOf
    rw [h1, heap_setBlock_same h1]
  · exact tyOf_of_block (hg.block k hk (fun q => e (Option.some.inj q)))
end Go.Proofs.Ytkllgikmlgponaa.Fil
