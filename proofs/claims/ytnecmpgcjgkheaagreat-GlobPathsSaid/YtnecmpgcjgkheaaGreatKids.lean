/-
  Maps from names to blocks: what a map of pointers holds, read, written, struck out. Conditions: names of at most 2^30 bytes.
-/
import Derived.Test.YtnecmpgcjgkheaaGreatFil6
import Derived.Test.YtnecmpgcjgkheaaGreatFil3
import Derived.Test.YtnecmpgcjgkheaaGreatProg
import Derived.Test.YtnecmpgcjgkheaaGreatOwn
import Derived.Maps.OwnSet
import Derived.Maps.Views
import Derived.Maps.RangeWalk
import Derived.StringKeys
set_option linter.unusedSimpArgs false
set_option linter.unusedVariables false
namespace Go.Proofs.YtnecmpgcjgkheaaGreat.Fil
open Go.ChangeShapes Go.WideShapes Go.Deep Go.RowKit
/-- A file: its path and its kind. -/
structure Fl where
  path : List UInt8
  kind : Int
/-- The kind of a path, as the reference tells; 0: there is none. -/
def kindL (x : List Fl) (p : List UInt8) : Int := if p = [47] then 1 else match x.find? (fun f => f.path == p) with
  | some f => f.kind
  | none => 0
/-- The text of some names. -/
def txt (ks : List (List UInt8)) : List UInt8 := if ks = [] then [47] else joinN ks
/-- The names of a path. -/
def nms (p : List UInt8) : List (List UInt8) := if p = [47] then [] else partsL p.tail
theorem join_parts : ∀ t, joinN (partsL t) = 47 :: t
  | [] => rfl
  | c :: r => by
    have ih := join_parts r
    rw [partsL_hd]
    split
    · rename_i h; subst h
      rw [show [] :: partsL r = [[]] ++ partsL r from rfl, joinN_app, ih]; rfl
    · cases hp : partsL r with
      | nil => exact absurd hp (partsL_ne r)
      | cons p ps =>
        rw [hp, show p :: ps = [p] ++ ps from rfl, joinN_app] at ih
        show joinN ([c :: p] ++ ps) = _
        rw [joinN_app]
        have e : joinN [c :: p] = 47 :: c :: p := by simp [joinN]
        have e2 : joinN [p] = 47 :: p := by simp [joinN]
        rw [e]
        rw [e2] at ih
        simp at ih ⊢
        exact ih
theorem nms_ok {p : List UInt8} (h : pathB p = true) : txt (nms p) = p ∧ ∀ n ∈ nms p, nameB n = true := by
  unfold nms
  by_cases h1 : p = [47]
  · rw [if_pos h1]; exact ⟨by rw [h1]; rfl, by simp⟩
  · rw [if_neg h1]
    unfold pathB at h
    rw [show (p == [47]) = false by rw [beq_eq_false_iff_ne]; exact h1, Bool.false_or, Bool.and_eq_true] at h
    obtain ⟨t, rfl⟩ : ∃ t, p = 47 :: t := by
      cases p with
      | nil => cases h.1
      | cons c r => exact ⟨r, by have := h.1; simp at this; rw [this]⟩
    refine ⟨?_, List.all_eq_true.1 h.2⟩
    unfold txt
    rw [if_neg (partsL_ne _)]
    exact join_parts t
theorem name_no {n : List UInt8} (h : nameB n = true) : 47 ∉ n ∧ n ≠ [] ∧ n.length ≤ 255 := by
  unfold nameB at h
  simp at h
  obtain ⟨⟨⟨⟨⟨h1, h2⟩, h3⟩, h4⟩, h5⟩, h6⟩ := h
  exact ⟨h5, h1, h4⟩
theorem nms_txt {ks : List (List UInt8)} (h : ∀ n ∈ ks, nameB n = true) : nms (txt ks) = ks := by
  unfold txt
  by_cases h1 : ks = []
  · rw [if_pos h1, h1]; rfl
  · rw [if_neg h1]
    have hp := parts_join h1 fun n hn => (name_no (h n hn)).1
    cases ks with
    | nil => exact absurd rfl h1
    | cons k r =>
      have e : joinN (k :: r) = 47 :: (k ++ joinN r) := by simp [joinN]
      rw [e] at hp ⊢
      rw [partsL_hd, if_pos rfl] at hp
      unfold nms
      rw [if_neg, List.tail_cons, (List.cons.inj hp).2]
      intro e2
      have := (List.cons.inj e2).2
      have hk := (name_no (h k (by simp))).2.1
      exact hk (List.append_eq_nil_iff.1 this).1
theorem txt_path {ks : List (List UInt8)} (h : ∀ n ∈ ks, nameB n = true) : pathB (txt ks) = true := by
  have e := nms_txt h
  unfold pathB
  rw [Bool.or_eq_true, Bool.and_eq_true]
  by_cases h1 : ks = []
  · left; rw [h1]; rfl
  · right
    have h2 : txt ks ≠ [47] := fun q => by rw [q] at e; exact h1 (e.symm.trans rfl)
    unfold nms at e
    rw [if_neg h2] at e
    refine ⟨?_, by rw [e]; exact List.all_eq_true.2 h⟩
    unfold txt
    rw [if_neg h1]
    cases ks with
    | nil => exact absurd rfl h1
    | cons k r => simp [joinN]
theorem txt_inj {ks js : List (List UInt8)} (h : ∀ n ∈ ks, nameB n = true) (h' : ∀ n ∈ js, nameB n = true) (e : txt ks = txt js) : ks = js := by
  rw [← nms_txt h, ← nms_txt h', e]
/-- The kind of a file, by its names. -/
def kd (x : List Fl) (ks : List (List UInt8)) : Option Int := if ks = [] then some 1 else if ks.all nameB = true then (x.find? fun f => f.path == txt ks).map Fl.kind else none
theorem kd_nil (x : List Fl) : kd x [] = some 1 := rfl
theorem kd_names {x : List Fl} {ks : List (List UInt8)} (h : (kd x ks).isSome = true) : ∀ n ∈ ks, nameB n = true := by
  unfold kd at h
  by_cases h1 : ks = []
  · rw [h1]; simp
  · rw [if_neg h1] at h
    by_cases h2 : ks.all nameB = true
    · exact List.all_eq_true.1 h2
    · rw [if_neg h2] at h; cases h
/-- A row of files as it may be. -/
structure RowF (x : List Fl) : Prop where
  p : ∀ f ∈ x, pathB f.path = true ∧ f.path ≠ [47] ∧ 1 ≤ f.kind ∧ f.kind ≤ 3
  d : x.Pairwise fun a b => a.path ≠ b.path
  u : ∀ ks a, (kd x (ks ++ [a])).isSome = true → kd x ks = some 1
theorem kd_kind {x : List Fl} (h : RowF x) {p : List UInt8} (hp : pathB p = true) : kindL x p = (kd x (nms p)).getD 0 := by
  obtain ⟨h1, h2⟩ := nms_ok hp
  unfold kindL kd
  by_cases e : p = [47]
  · rw [if_pos e, e]; rfl
  · have hn : nms p ≠ [] := fun q => by rw [q] at h1; exact e h1.symm
    rw [if_neg e, if_neg hn, if_pos (List.all_eq_true.2 h2), h1]
    cases x.find? fun f => f.path == p <;> rfl
theorem kd_pos {x : List Fl} (h : RowF x) {ks : List (List UInt8)} {k : Int} (hk : kd x ks = some k) : 1 ≤ k ∧ k ≤ 3 := by
  unfold kd at hk
  split at hk
  · cases hk; omega
  · split at hk
    · cases hf : x.find? (fun f => f.path == txt ks) with
      | none => rw [hf] at hk; cases hk
      | some f =>
        rw [hf] at hk
        cases hk
        exact (h.p f (List.mem_of_find?_eq_some hf)).2.2
    · cases hk
end Go.Proofs.YtnecmpgcjgkheaaGreat.Fil
namespace Go.Proofs.YtnecmpgcjgkheaaGreat.Fil
open Go.ChangeShapes Go.WideShapes Go.Deep Go.RowKit Go.MapKept Go.WideMaps Go.ChangeMaps
set_option maxRecDepth 100000
/-- How a pointer to a block reads. -/
def ptrR : Value → Option (DataW Unit × List MemPlace)
  | .pointer none => some (.lit (.bool false), [])
  | .pointer (some ⟨b, 0, none⟩) => some (.lit (.int .i64 b), [])
  | _ => none
def ptrD : Option Nat → DataW Unit
  | none => .lit (.bool false)
  | some b => .lit (.int .i64 b)
def ptrV : Option Nat → Value
  | none => .pointer none
  | some b => .pointer (some ⟨b, 0, none⟩)
theorem ptrR_V (o : Option Nat) : ptrR (ptrV o) = some (ptrD o, []) := by cases o <;> rfl
theorem ptrR_inv {v : Value} {o : Option Nat} {ps : List MemPlace} (h : ptrR v = some (ptrD o, ps)) : v = ptrV o := by
  unfold ptrR at h
  split at h
  · cases o with
    | none => rfl
    | some b => simp [ptrD] at h
  · cases o with
    | none => simp [ptrD] at h
    | some b =>
      simp [ptrD] at h
      have h1 := Int.ofNat_inj.1 h.1
      rw [h1]; rfl
  · cases h
theorem keyedS : Maps.Keyed Tryz.prog 9 := Maps.string_keyed Tryz.underlying9
theorem keyS (a : List UInt8) (h : a.length ≤ 1073741824) : keyOf Tryz.prog 9 (.string (B a)) = some (.string a) := by
  rw [keyOf_string_mk Tryz.underlying9 (by rw [B_size]; unfold maxLen; omega), B_data]
theorem keyS_inv {v : Value} {kl : Lit} (h : keyOf Tryz.prog 9 v = some kl) : ∃ a, v = .string (B a) ∧ kl = .string a := by
  rw [keyOf_string Tryz.underlying9] at h
  cases v with
  | string s =>
    obtain ⟨a, rfl⟩ := B_all s
    simp [mapKey, Tryz.underlying9] at h
    exact ⟨a, rfl, by rw [← h.2, B_data]⟩
  | _ => simp [mapKey, Tryz.underlying9] at h
theorem keyLit (a : List UInt8) : WideAt.IsKeyLit (.string a) := by first | trivial | simp [WideAt.IsKeyLit]
theorem zeroPtr (w : World) : (zeroValue 53).run Tryz.prog w = .ok (.pointer none) w := by kernel_rfl
theorem eqlSome (r : Nat) (w : World) : (binOp .eql 54 (.map (some r)) (.map none)).run Tryz.prog w = .ok (.bool false) w := by kernel_rfl
theorem eqlNil (w : World) : (binOp .eql 54 (.map none) (.map none)).run Tryz.prog w = .ok (.bool true) w := by kernel_rfl
/-- The block r is a map of c names, that leads each name of g to its block, and has no other. -/
structure KidsAt (w : World) (r : Nat) (g : List UInt8 → Option Nat) (c : Nat) : Prop where
  m : ∃ D, w.ownsMap Tryz.prog 9 ptrR r c D ∧ Maps.size D = c ∧ (∀ a, D.atKey (.string a) (ptrD none) = ptrD (g a)) ∧ (∀ a, Maps.has D (.string a) = (g a).isSome) ∧ (∀ kl, Maps.has D kl = true → ∃ a, kl = .string a)
  s : ∀ a, (g a).isSome = true → a.length ≤ 1073741824
theorem KidsAt.lt {w : World} {r c : Nat} {g : List UInt8 → Option Nat} (h : KidsAt w r g c) : r < w.heap.size := by obtain ⟨D, h1, _⟩ := h.m; exact h1.lt
theorem KidsAt.block {w w' : World} {r c : Nat} {g : List UInt8 → Option Nat} (h : KidsAt w r g c) (hb : w'.heap[r]? = w.heap[r]?) : KidsAt w' r g c := by
  obtain ⟨D, ⟨es, ck, k1, k2⟩, h2⟩ := h.m
  exact ⟨⟨D, ⟨es, ck, hb.trans k1, k2⟩, h2⟩, h.s⟩
theorem KidsAt.keeps {F : Nat → Prop} {w w' : World} {r c : Nat} {g : List UInt8 → Option Nat} (h : KidsAt w r g c) (hk : Keeps F w w') (hF : ¬ F r) : KidsAt w' r g c := h.block (hk.block r h.lt hF)
theorem KidsAt.below {w w' : World} {r c : Nat} {g : List UInt8 → Option Nat} (h : KidsAt w r g c) (hb : Below w.heap.size w w') : KidsAt w' r g c := h.block (hb.block r h.lt)
theorem KidsAt.new (w : World) : KidsAt (w.alloc (.map #[] 0)) w.heap.size (fun _ => none) 0 :=
  ⟨⟨.map [], World.ownsMap_made w Tryz.prog 9 ptrR, rfl, fun a => rfl, fun a => rfl, fun kl h => by cases h⟩, fun a h => by cases h⟩
/-- kids[a]. -/
theorem KidsAt.look {w : World} {r c : Nat} {g : List UInt8 → Option Nat} (h : KidsAt w r g c) (a : List UInt8) (ha : a.length ≤ 1073741824) : (Instr.lookup 54 (.map (some r)) (.string (B a)) false).run Tryz.prog w = .ok (ptrV (g a)) w := by
  obtain ⟨D, h1, h2, h3, h4, h5⟩ := h.m
  obtain ⟨v, ps, hr, hv⟩ := h1.lookup (t := 54) (e := 53) keyedS Tryz.underlying54 (zeroPtr w) (zd := ptrD none) (zp := []) rfl (keyS a ha)
  rw [h3] at hv
  rw [hr, ptrR_inv hv]
theorem look_nil (w : World) (a : List UInt8) (ha : a.length ≤ 1073741824) : (Instr.lookup 54 (.map none) (.string (B a)) false).run Tryz.prog w = .ok (ptrV none) w :=
  Maps.look_nil (e := 53) false keyedS Tryz.underlying54 (zeroPtr w) (keyS a ha)
theorem size_same {w : World} {P : Program} {k : TypeId} {R : Value → Option (DataW Unit × List MemPlace)} {b n : Nat} {D : DataW Unit} (h : w.ownsMap P k R b n D) : w.ownsMap P k R b (Maps.size D) D := by
  obtain ⟨es, ck, h1, h2, h3, rfl⟩ := h
  exact ⟨es, ck, h1, h2, by simp [Maps.size, length_sorted], rfl⟩
/-- kids[a] = &node, of a new name. -/
theorem KidsAt.put {w : World} {r c b : Nat} {g : List UInt8 → Option Nat} (h : KidsAt w r g c) (a : List UInt8) (ha : a.length ≤ 1073741824) (hn : g a = none) (hc : c < 1099511627776) :
    ∃ w', (Instr.mapUpdate 54 (.map (some r)) (.string (B a)) (.pointer (some ⟨b, 0, none⟩))).run Tryz.prog w = .ok () w' ∧ KidsAt w' r (fun x => if x = a then some b else g x) (c + 1) ∧ w.mapTurned w' r := by
  obtain ⟨D, h1, h2, h3, h4, h5⟩ := h.m
  obtain ⟨w', hr, ho, ht⟩ := h1.store (t := 54) (e := 53) keyedS Tryz.underlying54 (by unfold maxLen; omega) (keyS a ha) (ptrR_V (some b))
  have hz : Maps.size (D.put (.string a) (ptrD (some b))) = c + 1 := by
    rw [Maps.size_put (h1.tidy keyedS), h4, hn, h2]; rfl
  refine ⟨w', hr, ⟨⟨_, by have := size_same ho; rwa [hz] at this, hz, fun x => ?_, fun x => ?_, fun kl hk => ?_⟩, fun x hx => ?_⟩, ht⟩
  · by_cases e : x = a
    · subst e; rw [if_pos rfl, Maps.atKey_put_same (h1.isMap) (keyLit x)]
    · rw [if_neg e, Maps.atKey_put_other (by simpa using e), h3]
  · by_cases e : x = a
    · subst e; rw [if_pos rfl, Maps.has_put_same (h1.isMap) (keyLit x)]; rfl
    · rw [if_neg e, Maps.has_put_other (by simpa using e), h4]
  · by_cases e : kl = .string a
    · exact ⟨a, e⟩
    · rw [Maps.has_put_other e] at hk; exact h5 kl hk
  · by_cases e : x = a
    · subst e; exact ha
    · rw [if_neg e] at hx; exact h.s x hx
/-- delete(kids, a), of a name that is there. -/
theorem KidsAt.del {w : World} {r c : Nat} {g : List UInt8 → Option Nat} (h : KidsAt w r g c) (a : List UInt8) (ha : a.length ≤ 1073741824) (hn : (g a).isSome = true) (ty : TypeId) :
    ∃ w', (Builtin.delete_ #[54, 9] ty #[.map (some r), .string (B a)]).run Tryz.prog w = .ok (.tuple #[]) w' ∧ KidsAt w' r (fun x => if x = a then none else g x) (c - 1) ∧ w.mapTurned w' r := by
  obtain ⟨D, h1, h2, h3, h4, h5⟩ := h.m
  obtain ⟨w', hr, ho, ht⟩ := h1.drop (t := 54) (e := 53) keyedS Tryz.underlying54 (keyS a ha) ty
  have hz : Maps.size (D.del (.string a)) = c - 1 := by
    have := Maps.size_del (k := .string a) (h1.tidy keyedS)
    rw [h4, hn, h2] at this
    simp at this
    omega
  refine ⟨w', hr, ⟨⟨_, by have := size_same ho; rwa [hz] at this, hz, fun x => ?_, fun x => ?_, fun kl hk => ?_⟩, fun x hx => ?_⟩, ht⟩
  · by_cases e : x = a
    · subst e; rw [if_pos rfl, Maps.atKey_del_same]
    · rw [if_neg e, Maps.atKey_del_other (by simpa using e), h3]
  · by_cases e : x = a
    · subst e; rw [if_pos rfl, Maps.has_del_same]; rfl
    · rw [if_neg e, Maps.has_del_other (by simpa using e), h4]
  · by_cases e : kl = .string a
    · exact ⟨a, e⟩
    · rw [Maps.has_del_other e] at hk; exact h5 kl hk
  · by_cases e : x = a
    · subst e; exact ha
    · rw [if_neg e] at hx; exact h.s x hx
theorem KidsAt.len {w : World} {r c : Nat} {g : List UInt8 → Option Nat} (h : KidsAt w r g c) (ty : TypeId) : (Builtin.len_ #[54] ty #[.map (some r)]).run Tryz.prog w = .ok (.int .i64 c) w := by
  obtain ⟨D, h1, h2, _⟩ := h.m
  rw [h1.len (e := 53) Tryz.underlying54 ty, h2]
/-- What a store into a map leaves. -/
theorem keeps_turned {w w' : World} {r : Nat} (h : w.mapTurned w' r) : Keeps (fun k => k = r) w w' := by
  have hg := h.grown
  refine ⟨hg.os, hg.tape, hg.output, hg.size, fun k hk hF => hg.block k hk (fun e => hF (Option.some.inj e)), fun k hk => ?_⟩
  by_cases e : k = r
  · subst e
    obtain ⟨es, ck, es', ck', h1, rfl⟩ := h
    unfold tyOf
    rw [h1, heap_setBlock_same h1]
  · exact tyOf_of_block (hg.block k hk (fun q => e (Option.some.inj q)))
end Go.Proofs.YtnecmpgcjgkheaaGreat.Fil
