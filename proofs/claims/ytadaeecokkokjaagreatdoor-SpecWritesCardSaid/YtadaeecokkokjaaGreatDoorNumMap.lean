/-
  Maps from numbers to numbers. Conditions: keys of at most 2^31.
-/
import Derived.Test.YtadaeecokkokjaaGreatDoorPartsA
import Derived.Test.YtadaeecokkokjaaGreatDoorProg
import Derived.Test.YtadaeecokkokjaaGreatDoorOwn
import Derived.Maps.OwnSet
import Derived.Maps.Views
set_option linter.unusedSimpArgs false
set_option linter.unusedVariables false
/-
  What a word means (layer 8), plainly: the pieces of a text. No program in sight.
-/
namespace Go.Proofs.YtadaeecokkokjaaGreatDoor.Li
set_option linter.unusedSimpArgs false
set_option linter.unusedVariables false
open Cls Md Mc Pa
/-- A piece: whether it is expanded, whether it is quoted, its text. -/
structure Pc where
  ex : Bool
  qu : Bool
  tx : List UInt8
/-- The number of the part that begins at a place, and one; the last one's ahead. -/
def idxR : List Part → Nat → Nat
  | [], _ => 0
  | p :: r, at_ => if p.fr = at_ then r.length + 1 else idxR r at_
def idxP (L : List Part) (at_ : Nat) : Nat := idxR L.reverse at_
theorem idxP_snoc (L : List Part) (p : Part) (at_ : Nat) : idxP (L ++ [p]) at_ = if at_ = p.fr then L.length + 1 else idxP L at_ := by
  unfold idxP
  rw [List.reverse_append, List.reverse_singleton, List.singleton_append]
  unfold idxR
  rw [List.length_reverse]
  by_cases h : p.fr = at_
  · rw [if_pos h, if_pos h.symm]
  · rw [if_neg h, if_neg (fun e => h e.symm)]
    cases L.reverse <;> rfl
theorem idxR_le (r : List Part) (at_ : Nat) : idxR r at_ ≤ r.length := by
  induction r with
  | nil => exact Nat.le_refl _
  | cons p r ih => unfold idxR; rw [List.length_cons]; split <;> omega
theorem idxP_le (L : List Part) (at_ : Nat) : idxP L at_ ≤ L.length := by have := idxR_le L.reverse at_; rwa [List.length_reverse] at this
/-- The part that begins at a place. -/
def atP (L : List Part) (at_ : Nat) : Option Part := if idxP L at_ = 0 then none else L[idxP L at_ - 1]?
theorem idxP_get (L : List Part) (at_ : Nat) (h : idxP L at_ ≠ 0) : ∃ p, L[idxP L at_ - 1]? = some p ∧ p.fr = at_ := by
  have H : ∀ r : List Part, idxR r at_ ≠ 0 → ∃ p, r.reverse[idxR r at_ - 1]? = some p ∧ p.fr = at_ := by
    intro r
    induction r with
    | nil => intro h; exact absurd rfl h
    | cons p r ih =>
      intro h
      by_cases e : p.fr = at_
      · refine ⟨p, ?_, e⟩
        unfold idxR
        rw [if_pos e]
        simp
      · unfold idxR at h ⊢
        rw [if_neg e] at h ⊢
        obtain ⟨q, h1, h2⟩ := ih h
        refine ⟨q, ?_, h2⟩
        have := idxR_le r at_
        rw [List.reverse_cons, List.getElem?_append_left (by rw [List.length_reverse]; omega)]
        exact h1
  have := H L.reverse h
  rwa [List.reverse_reverse] at this
theorem atP_none {L : List Part} {at_ : Nat} (h : idxP L at_ = 0) : atP L at_ = none := if_pos h
theorem atP_some {L : List Part} {at_ : Nat} (h : idxP L at_ ≠ 0) : ∃ p, atP L at_ = some p ∧ L[idxP L at_ - 1]? = some p ∧ p.fr = at_ := by
  obtain ⟨p, h1, h2⟩ := idxP_get L at_ h
  exact ⟨p, by unfold atP; rw [if_neg h, h1], h1, h2⟩
/-- Whether a part is a dollar that means itself. -/
def loneP (p : Part) : Bool := p.c == 76 && p.fin == p.fr + 1
def subT (s : List UInt8) (a b : Nat) : List UInt8 := (s.take b).drop a
def escB (b : Int) : Bool := b == 36 || b == 96 || b == 34 || b == 92
/-- What an Escape within a Double stands for. -/
def escT (s : List UInt8) (p : Part) : List UInt8 :=
  if p.fin < p.fr + 2 then [] else
  if escB (s.getD (p.fr + 1) 0).toNat = true then [s.getD (p.fr + 1) 0] else if (((s.getD (p.fr + 1) 0).toNat : Int) == 10) = true then [] else subT s p.fr p.fin
/-- The pieces of a Double's inside. -/
def dblP (s : List UInt8) (L : List Part) (tt : Nat) : Nat → Nat → List UInt8 → Bool → List Pc
  | 0, _, _, _ => []
  | f + 1, at_, here, x =>
    if at_ < tt then
      match atP L at_ with
      | none => dblP s L tt f (at_ + 1) (here ++ [s.getD at_ 0]) x
      | some k =>
        if loneP k then dblP s L tt f (at_ + 1) (here ++ [s.getD at_ 0]) x
        else if k.c = 88 then dblP s L tt f k.fin (here ++ escT s k) x
        else (if here = [] then [] else [⟨false, true, here⟩]) ++ ⟨true, true, subT s k.fr k.fin⟩ :: dblP s L tt f k.fin [] true
    else if here = [] ∧ x = true then [] else [⟨false, true, here⟩]
def flushP (pl : List UInt8) : List Pc := if pl = [] then [] else [⟨false, false, pl⟩]
/-- Where a part's inside begins and ends. -/
def insF (p : Part) : Nat := p.fr + headI (mo p.c)
def insT (p : Part) : Nat := max (p.fin - tailI (mo p.c) p.op) (insF p)
/-- The piece of an Escape or a Single. -/
def quoP (s : List UInt8) (p : Part) : Option Pc :=
  if p.c = 83 then some ⟨false, true, subT s (insF p) (insT p)⟩
  else if subT s (p.fr + 1) p.fin = [] ∨ subT s (p.fr + 1) p.fin = [10] then none else some ⟨false, true, subT s (p.fr + 1) p.fin⟩
/-- The pieces of a text from a place on; pl: the bytes that stand for themselves, and are not told yet. -/
def eachP (s : List UInt8) (L : List Part) : Nat → Nat → List UInt8 → List Pc
  | 0, _, _ => []
  | f + 1, at_, pl =>
    if at_ < s.length then
      match atP L at_ with
      | none => eachP s L f (at_ + 1) (pl ++ [s.getD at_ 0])
      | some p =>
        if loneP p = true ∨ p.c = 35 then eachP s L f p.fin (pl ++ subT s p.fr p.fin)
        else if p.c = 88 ∨ p.c = 83 then
          match quoP s p with
          | none => eachP s L f p.fin pl
          | some q => flushP pl ++ q :: eachP s L f p.fin []
        else if p.c = 68 then flushP pl ++ dblP s L (insT p) (s.length + 1) (insF p) [] false ++ eachP s L f p.fin []
        else flushP pl ++ ⟨true, false, subT s p.fr p.fin⟩ :: eachP s L f p.fin []
    else flushP pl
def piecesL (s : List UInt8) : List Pc := eachP s (partsL s) (s.length + 1) 0 []
/-- The value of a text. -/
def valP : List Pc → List UInt8 → List UInt8 × Bool
  | [], a => (a, true)
  | p :: r, a => if p.ex = true then ([], false) else valP r (a ++ p.tx)
def valueL (s : List UInt8) : List UInt8 × Bool := valP (piecesL s) []
/-- All parts end behind where they begin, within the text. -/
def Sound (s : List UInt8) (L : List Part) : Prop := ∀ p ∈ L, p.fr < p.fin ∧ p.fin ≤ s.length
/-- What is closed ends behind where it begins. -/
def Shut (L : List Part) (n : Nat) : Prop := ∀ p ∈ L, p.op = false → p.fr < p.fin ∧ p.fin ≤ n
theorem Shut.mono {L : List Part} {n m : Nat} (h : Shut L n) (hm : n ≤ m) : Shut L m := fun p hp ho => ⟨(h p hp ho).1, Nat.le_trans (h p hp ho).2 hm⟩
theorem shutP_shut {a : Nat} {F : List (UInt8 × Nat)} {L : List Part} {H : List Nat} (h : Shut L (a + 1)) (hf : FrLe L a) : Shut (shutP (a + 1) F L H).1 (a + 1) := by
  induction H generalizing L with
  | nil => exact h
  | cons k r ih =>
    unfold shutP
    split
    · exact h
    · refine ih (fun p hp ho => ?_) (hf.modify k fun _ => rfl)
      rcases mem_modify hp with q | ⟨b, hb, rfl⟩
      · exact h p q ho
      · have := hf b hb
        exact ⟨Nat.lt_succ_of_le this, Nat.le_refl _⟩
theorem openP_shut {i n : Nat} {F : List (UInt8 × Nat)} {L : List Part} {H : List Nat} (h : Shut L n) : Shut (openP i F L H).1 n := by
  induction F generalizing i L H with
  | nil => exact h
  | cons f F ih =>
    unfold openP
    split
    · refine ih fun p hp ho => ?_
      rcases mem_modify hp with q | ⟨b, hb, rfl⟩
      · exact h p q ho
      · exact h b hb ho
    · refine ih fun p hp ho => ?_
      rcases List.mem_append.1 hp with q | q
      · exact h p q ho
      · rw [List.mem_singleton] at q
        subst q
        cases ho
theorem par_shut {s : List UInt8} : ∀ k, k ≤ s.length → Shut (par (s.take k)).1 k := by
  intro k
  induction k with
  | zero => intro _ e he; simp [par, parK] at he
  | succ k ih =>
    intro hk
    rw [par_take (by omega)]
    unfold seeP
    exact openP_shut (shutP_shut ((ih (by omega)).mono (Nat.le_succ k)) fun e he => by have := par_fr k (by omega) e he; omega)
theorem parts_sound (s : List UInt8) : Sound s (partsL s) := by
  intro p hp
  obtain ⟨q, hq, rfl⟩ := List.mem_map.1 hp
  have h1 := par_here q hq
  have h2 := par_shut (s := s) s.length (Nat.le_refl _) q (by rw [List.take_length]; exact hq)
  have h3 := paramN_le s (q.fr + 1)
  unfold finP
  split
  · dsimp only; omega
  · split
    · exact ⟨h1, Nat.le_refl _⟩
    · rename_i ho
      exact h2 (by simpa using ho)
end Go.Proofs.YtadaeecokkokjaaGreatDoor.Li
namespace Go.Proofs.YtadaeecokkokjaaGreatDoor.NM
open Go.ChangeShapes Go.WideShapes Go.Deep Go.RowKit Go.MapKept Go.WideMaps Go.ChangeMaps
set_option maxRecDepth 100000
/-- How a number reads. -/
def numR : Value → Option (DataW Unit × List MemPlace)
  | .int .i64 z => some (.lit (.int .i64 z), [])
  | _ => none
theorem numR_inv {v : Value} {z : Int} {ps : List MemPlace} (h : numR v = some (.lit (.int .i64 z), ps)) : v = .int .i64 z := by
  unfold numR at h
  split at h
  · simp at h
    rw [h.1]
  · cases h
theorem keyedI : Maps.Keyed Tryz.prog 3 := Maps.int_keyed Tryz.underlying3
theorem wfI (a : Nat) (h : a ≤ 2147483648) : (Lit.int .i64 (a : Int)).wf = true := by
  have h1 : IntKind.i64.min = -9223372036854775808 := by decide
  have h2 : IntKind.i64.max = 9223372036854775807 := by decide
  show (decide (IntKind.i64.min ≤ (a : Int)) && decide ((a : Int) ≤ IntKind.i64.max)) = true
  rw [h1, h2]
  simp
  omega
theorem keyI (a : Nat) (h : a ≤ 2147483648) : keyOf Tryz.prog 3 (.int .i64 a) = some (.int .i64 a) := Maps.keyOf_int_mk Tryz.underlying3 (wfI a h)
theorem zeroI (w : World) : (zeroValue 3).run Tryz.prog w = .ok (.int .i64 0) w := by kernel_rfl
/-- The block r is a map of at most c numbers, that leads each number to that of g; to 0, where it has none. -/
structure NumsAt (w : World) (r : Nat) (g : Nat → Nat) (c : Nat) : Prop where
  m : ∃ D, w.ownsMap Tryz.prog 3 numR r (Maps.size D) D ∧ Maps.size D ≤ c ∧ ∀ a : Nat, D.atKey (.int .i64 a) (.lit (.int .i64 0)) = .lit (.int .i64 (g a))
theorem NumsAt.lt {w : World} {r c : Nat} {g : Nat → Nat} (h : NumsAt w r g c) : r < w.heap.size := by obtain ⟨D, h1, _⟩ := h.m; exact h1.lt
theorem NumsAt.block {w w' : World} {r c : Nat} {g : Nat → Nat} (h : NumsAt w r g c) (hb : w'.heap[r]? = w.heap[r]?) : NumsAt w' r g c := by
  obtain ⟨D, ⟨es, ck, k1, k2⟩, h2⟩ := h.m
  exact ⟨⟨D, ⟨es, ck, hb.trans k1, k2⟩, h2⟩⟩
theorem NumsAt.keeps {F : Nat → Prop} {w w' : World} {r c : Nat} {g : Nat → Nat} (h : NumsAt w r g c) (hk : Keeps F w w') (hF : ¬ F r) : NumsAt w' r g c := h.block (hk.block r h.lt hF)
theorem NumsAt.below {w w' : World} {r c : Nat} {g : Nat → Nat} (h : NumsAt w r g c) (hb : Below w.heap.size w w') : NumsAt w' r g c := h.block (hb.block r h.lt)
theorem NumsAt.new (w : World) : NumsAt (w.alloc (.map #[] 0)) w.heap.size (fun _ => 0) 0 :=
  ⟨⟨.map [], World.ownsMap_made w Tryz.prog 3 numR, Nat.le_refl _, fun a => rfl⟩⟩
/-- m[a]. -/
theorem NumsAt.look {w : World} {r c : Nat} {g : Nat → Nat} (h : NumsAt w r g c) (a : Nat) (ha : a ≤ 2147483648) : (Instr.lookup 111 (.map (some r)) (.int .i64 a) false).run Tryz.prog w = .ok (.int .i64 (g a)) w := by
  obtain ⟨D, h1, h2, h3⟩ := h.m
  obtain ⟨v, ps, hr, hv⟩ := h1.lookup (t := 111) (e := 3) keyedI Tryz.underlying111 (zeroI w) (zd := .lit (.int .i64 0)) (zp := []) rfl (keyI a ha)
  rw [h3] at hv
  rw [hr, numR_inv hv]
theorem size_same {w : World} {P : Program} {k : TypeId} {R : Value → Option (DataW Unit × List MemPlace)} {b n : Nat} {D : DataW Unit} (h : w.ownsMap P k R b n D) : w.ownsMap P k R b (Maps.size D) D := by
  obtain ⟨es, ck, h1, h2, h3, rfl⟩ := h
  exact ⟨es, ck, h1, h2, by simp [Maps.size, length_sorted], rfl⟩
/-- m[a] = b. -/
theorem NumsAt.put {w : World} {r c : Nat} {g : Nat → Nat} (h : NumsAt w r g c) (a b : Nat) (ha : a ≤ 2147483648) (hc : c < 1099511627776) :
    ∃ w', (Instr.mapUpdate 111 (.map (some r)) (.int .i64 a) (.int .i64 b)).run Tryz.prog w = .ok () w' ∧ NumsAt w' r (fun x => if x = a then b else g x) (c + 1) ∧ w.mapTurned w' r := by
  obtain ⟨D, h1, h2, h3⟩ := h.m
  obtain ⟨w', hr, ho, ht⟩ := h1.store (t := 111) (e := 3) keyedI Tryz.underlying111 (by unfold maxLen; omega) (keyI a ha) (show numR (.int .i64 b) = some (.lit (.int .i64 b), []) from rfl)
  have hz : Maps.size (D.put (.int .i64 a) (.lit (.int .i64 b))) ≤ c + 1 := by
    rw [Maps.size_put (h1.tidy keyedI)]
    split <;> omega
  refine ⟨w', hr, ⟨⟨_, size_same ho, hz, fun x => ?_⟩⟩, ht⟩
  by_cases e : x = a
  · subst e; rw [if_pos rfl, Maps.atKey_put_same (h1.isMap) (by first | trivial | simp [WideAt.IsKeyLit])]
  · rw [if_neg e, Maps.atKey_put_other (by simp; omega), h3]
end Go.Proofs.YtadaeecokkokjaaGreatDoor.NM
