/-
  Regions that draw their order, inside a fence that asks nothing (in a round of a loop over an iterator; in an iterator, at its calls of yield): the plain laws turned. No program in sight.
-/
import Derived.Test.YtnecmpgcjgkheaaGreatIter
import Derived.Test.YtnecmpgcjgkheaaGreatSl
import Derived.HandedShaped
import Derived.Shelf.Vars
import Derived.Lib.Strings
import Derived.Lib.IndexMore
import Derived.Lib.IndexLaws
import Derived.Lib.IndexBytes
import Derived.Lib.Join
import Derived.OrdersIn
set_option linter.unusedSimpArgs false
set_option linter.unusedVariables false
namespace Go.Proofs.YtnecmpgcjgkheaaGreat.Pat
open Go.ChangeShapes Go.WideShapes Go.Deep Go.RowKit
/-- The library's variable MaxLen holds some number. -/
def MaxL (w : World) : Prop := ∃ m, w.cell? ⟨0, 0, none⟩ = some (.int .i64 m)
theorem MaxL.lt {w : World} (h : MaxL w) : 0 < w.heap.size := by obtain ⟨m, hm⟩ := h; exact World.block_lt_of_cell? w _ hm
theorem MaxL.below {w W : World} (h : MaxL w) (hb : Below w.heap.size w W) : MaxL W := by
  have := h.lt
  obtain ⟨m, hm⟩ := h
  exact ⟨m, (hb.cell (p := ⟨0, 0, none⟩) this).trans hm⟩
theorem MaxL.keeps {F : Nat → Prop} {w W : World} (h : MaxL w) (hk : Keeps F w W) (hF : ¬ F 0) : MaxL W := by
  have := h.lt
  obtain ⟨m, hm⟩ := h
  exact ⟨m, (World.cell?_of_block (w := w) (hk.block 0 this hF)).trans hm⟩
theorem MaxL.keepG {G : Nat → Prop} {w W : World} (h : MaxL w) (hk : KeepG G w W) (h0 : G 0) : MaxL W := by
  obtain ⟨m, hm⟩ := h
  exact ⟨m, (hk.cell h0).trans hm⟩
end Go.Proofs.YtnecmpgcjgkheaaGreat.Pat
namespace Go.Proofs.YtnecmpgcjgkheaaGreat
open Go.ChangeShapes Go.WideShapes Go.ChangeAt Go.RowKit
set_option maxRecDepth 100000
theorem maxL_of {w : World} (h : w.ShapedOpen Tryz.prog) : Pat.MaxL w :=
  cell_of_shapedOpen_int (t := 3) (zero := #[.int .i64 0]) h (of_decide_eq_true (by kernel_rfl)) (by kernel_rfl) rfl (by kernel_rfl) (by kernel_rfl) Tryz.underlying3
end Go.Proofs.YtnecmpgcjgkheaaGreat
namespace Go.Proofs.YtnecmpgcjgkheaaGreat.Fil
/-- What stands between a text's strokes. -/
def partsL : List UInt8 → List (List UInt8)
  | [] => [[]]
  | c :: r => if c = 47 then [] :: partsL r else
    match partsL r with
    | p :: ps => (c :: p) :: ps
    | [] => [[c]]
theorem partsL_ne : ∀ s, partsL s ≠ []
  | [] => by simp [partsL]
  | c :: r => by
    unfold partsL
    split
    · simp
    · split <;> simp
/-- A text ahead of the first part. -/
def pre (w : List UInt8) : List (List UInt8) → List (List UInt8)
  | p :: ps => (w ++ p) :: ps
  | [] => []
theorem pre_nil (ps : List (List UInt8)) : pre [] ps = ps := by cases ps <;> rfl
theorem pre_len (w : List UInt8) (ps : List (List UInt8)) : (pre w ps).length = ps.length := by cases ps <;> rfl
theorem partsL_cons {c : UInt8} (h : c ≠ 47) (r w : List UInt8) : pre w (partsL (c :: r)) = pre (w ++ [c]) (partsL r) := by
  conv => lhs; unfold partsL
  rw [if_neg h]
  cases hp : partsL r with
  | nil => exact absurd hp (partsL_ne r)
  | cons p ps => simp [pre]
theorem partsL_stroke (r w : List UInt8) : pre w (partsL (47 :: r)) = w :: partsL r := by
  conv => lhs; unfold partsL
  simp [pre]
theorem partsL_len : ∀ s, (partsL s).length ≤ s.length + 1
  | [] => by simp [partsL]
  | c :: r => by
    have := partsL_len r
    unfold partsL
    split
    · simp; omega
    · split
      · rename_i p ps hp; rw [hp] at this; simp at this ⊢; omega
      · simp
/-- A text without a stroke is its own part. -/
theorem partsL_one : ∀ {s : List UInt8}, 47 ∉ s → partsL s = [s]
  | [], _ => rfl
  | c :: r, h => by
    simp only [List.mem_cons, not_or] at h
    unfold partsL
    rw [if_neg (fun e => h.1 e.symm), partsL_one h.2]
theorem partsL_app : ∀ (s t : List UInt8), 47 ∉ s → partsL (s ++ 47 :: t) = s :: partsL t
  | [], t, _ => by simp [partsL]
  | c :: r, t, h => by
    simp only [List.mem_cons, not_or] at h
    rw [List.cons_append]
    conv => lhs; unfold partsL
    rw [if_neg (fun e => h.1 e.symm), partsL_app r t h.2]
theorem partsL_mem : ∀ {s : List UInt8} {p : List UInt8}, p ∈ partsL s → 47 ∉ p ∧ p.length ≤ s.length
  | [], p, h => by simp [partsL] at h; subst h; simp
  | c :: r, p, h => by
    unfold partsL at h
    split at h
    · rcases List.mem_cons.1 h with rfl | h
      · simp
      · have := partsL_mem h; exact ⟨this.1, by simp; omega⟩
    · rename_i hc
      split at h
      · rename_i q qs hp
        have hq := partsL_mem (s := r) (p := q) (by rw [hp]; simp)
        rcases List.mem_cons.1 h with rfl | h
        · exact ⟨by simp only [List.mem_cons, not_or]; exact ⟨fun e => hc e.symm, hq.1⟩, by simp; omega⟩
        · have := partsL_mem (s := r) (p := p) (by rw [hp]; simp [h]); exact ⟨this.1, by simp; omega⟩
      · simp at h; subst h; simp only [List.mem_singleton]; exact ⟨fun e => hc e.symm, by simp⟩
theorem partsL_hd (c : UInt8) (r : List UInt8) : partsL (c :: r) = if c = 47 then [] :: partsL r else match partsL r with
    | p :: ps => (c :: p) :: ps
    | [] => [[c]] := rfl
theorem partsL_snoc : ∀ (s t : List UInt8), partsL (s ++ 47 :: t) = partsL s ++ partsL t
  | [], t => by rw [List.nil_append, partsL_hd, if_pos rfl]; rfl
  | c :: r, t => by
    rw [List.cons_append, partsL_hd, partsL_hd, partsL_snoc r t]
    split
    · rfl
    · cases hp : partsL r with
      | nil => exact absurd hp (partsL_ne r)
      | cons p ps => rfl
/-- How strings.Cut walks through the parts. -/
theorem parts_cut (s : List UInt8) : (Lib.cut s [47]).2.2 = false ∧ (Lib.cut s [47]).1 = s ∧ partsL s = [s] ∨ (Lib.cut s [47]).2.2 = true ∧ partsL s = (Lib.cut s [47]).1 :: partsL (Lib.cut s [47]).2.1 ∧ (Lib.cut s [47]).2.1.length < s.length := by
  unfold Lib.cut
  rw [Lib.index_one]
  have hge := Lib.indexByte_ge s 47
  by_cases h : 0 ≤ Lib.indexByte s 47
  · right
    rw [if_pos h]
    obtain ⟨i, hi⟩ : ∃ i : Nat, Lib.indexByte s 47 = i := ⟨(Lib.indexByte s 47).toNat, by omega⟩
    obtain ⟨h1, h2⟩ := Lib.indexByte_some hi
    obtain ⟨h3, h4⟩ := List.getElem?_eq_some_iff.1 h1
    rw [hi]
    simp only [Int.toNat_natCast, List.length_singleton]
    refine ⟨by trivial, ?_, by rw [List.length_drop]; omega⟩
    have e : s = s.take i ++ 47 :: s.drop (i + 1) := by
      conv => lhs; rw [← List.take_append_drop i s, List.drop_eq_getElem_cons h3, h4]
    conv => lhs; rw [e]
    refine partsL_app _ _ fun hm => ?_
    obtain ⟨k, hk, hk2⟩ := List.mem_iff_getElem.1 hm
    rw [List.length_take] at hk
    rw [List.getElem_take] at hk2
    exact h2 k (by omega) (by rw [List.getElem?_eq_getElem (by omega), hk2])
  · left
    rw [if_neg h]
    refine ⟨rfl, rfl, partsL_one fun hm => ?_⟩
    obtain ⟨k, hk⟩ := List.mem_iff_getElem?.1 hm
    exact Lib.indexByte_none (show Lib.indexByte s 47 = -1 by omega) k hk
/-- Whether a text is a name. -/
def nameB (s : List UInt8) : Bool := s != [] && s != [46] && s != [46, 46] && decide (s.length ≤ 255) && !s.contains 47 && !s.contains 0
/-- Whether a text is a path. -/
def pathB (s : List UInt8) : Bool := s == [47] || (s.head? == some 47 && (partsL s.tail).all nameB)
/-- One part, behind the names so far. -/
def step (ns : List (List UInt8)) (p : List UInt8) : List (List UInt8) := if p = [46, 46] then ns.dropLast else if p = [] ∨ p = [46] then ns else ns ++ [p]
def startL (dir text : List UInt8) : List UInt8 := if text.head? = some 47 then text else dir ++ 47 :: text
theorem startL_yes {dir text : List UInt8} (h : text.head? = some 47) : startL dir text = text := by unfold startL; rw [if_pos h]
theorem startL_no {dir text : List UInt8} (h : text.head? ≠ some 47) : startL dir text = dir ++ 47 :: text := by unfold startL; rw [if_neg h]
/-- The names of a cleaned text. -/
def namesL (dir text : List UInt8) : List (List UInt8) := (partsL (startL dir text)).foldl step []
def joinN (ns : List (List UInt8)) : List UInt8 := ns.flatMap fun n => 47 :: n
def cleanL (dir text : List UInt8) : List UInt8 := if namesL dir text = [] then [47] else joinN (namesL dir text)
theorem parts_join : ∀ {ns : List (List UInt8)}, ns ≠ [] → (∀ n ∈ ns, 47 ∉ n) → partsL (joinN ns) = [] :: ns
  | [], h, _ => absurd rfl h
  | [n], _, hn => by
    have := partsL_one (hn n (by simp))
    simp [joinN, partsL, this]
  | n :: m :: r, _, hn => by
    have ih := parts_join (ns := m :: r) (by simp) fun k hk => hn k (by simp [hk])
    have e : joinN (n :: m :: r) = 47 :: (n ++ joinN (m :: r)) := by simp [joinN]
    have e2 : joinN (m :: r) = 47 :: (m ++ joinN r) := by simp [joinN]
    rw [e]
    conv => lhs; unfold partsL
    rw [if_pos rfl]
    rw [e2] at ih ⊢
    rw [partsL_app n _ (hn n (by simp))]
    unfold partsL at ih
    rw [if_pos rfl] at ih
    rw [(List.cons.inj ih).2]
theorem fold_names : ∀ (qs ns : List (List UInt8)), (∀ n ∈ qs, 47 ∉ n ∧ n ≠ [] ∧ n ≠ [46] ∧ n ≠ [46, 46]) → qs.foldl step ns = ns ++ qs
  | [], ns, _ => by simp
  | q :: qs, ns, h => by
    obtain ⟨_, h1, h2, h3⟩ := h q (by simp)
    rw [List.foldl_cons, fold_names qs _ fun n hn => h n (by simp [hn])]
    unfold step
    rw [if_neg h3, if_neg (by simp [h1, h2])]
    simp
end Go.Proofs.YtnecmpgcjgkheaaGreat.Fil
namespace Go.Proofs.YtnecmpgcjgkheaaGreat
open Go.ChangeShapes Go.WideShapes Go.Deep Go.RowKit
/-- A block that begins with these cells, and may be written. -/
structure BoxN (w : World) (b : Nat) (cs : List Value) : Prop where
  lt : b < w.heap.size
  c : ∀ j u, cs[j]? = some u → w.cell? ⟨b, j, none⟩ = some u
  f : ∀ j, w.frozen? ⟨b, j, none⟩ = false
theorem BoxN.new (W : World) (cs : List Value) (t : TypeId) : BoxN (W.alloc (.cells cs.toArray t)) W.heap.size cs := by
  refine ⟨by simp, fun j u h => ?_, fun j => by simp [go_sem]⟩
  have hh := heap_alloc_new W (.cells cs.toArray t)
  unfold World.cell?
  simp only [hh]
  simpa using h
theorem BoxN.block {w W : World} {b : Nat} {cs : List Value} (h : BoxN w b cs) (e : W.heap[b]? = w.heap[b]?) (hs : w.heap.size ≤ W.heap.size) : BoxN W b cs :=
  ⟨Nat.lt_of_lt_of_le h.lt hs, fun j u hj => (World.cell?_of_block (w := w) e).trans (h.c j u hj), fun j => (World.frozen?_of_block (w := w) e).trans (h.f j)⟩
theorem BoxN.below {w W : World} {b : Nat} {cs : List Value} (h : BoxN w b cs) (hb : Below w.heap.size w W) : BoxN W b cs := h.block (hb.block b h.lt) hb.size
theorem BoxN.keeps {F : Nat → Prop} {w W : World} {b : Nat} {cs : List Value} (h : BoxN w b cs) (hk : Keeps F w W) (hF : ¬ F b) : BoxN W b cs := h.block (hk.block b h.lt hF) hk.size
theorem BoxN.src {w : World} {b m : Nat} {cs : List Value} (h : BoxN w b cs) : Src w (.slice (some ⟨b, 0, none⟩) m m) m cs :=
  ⟨_, _, rfl, .inr ⟨_, rfl, fun j u hj => by rw [add_plain, Nat.zero_add]; exact h.c j u hj⟩⟩
theorem KeepsFrom.allocN (A : Nat) (W : World) (o : Obj) : KeepsFrom A W (W.alloc o) := KeepsFrom.of_keeps (F := fun _ => False) (Keeps.of_below (below_alloc (Below.refl _ _) o)) (fun _ h => h.elim)
theorem KeepG.of_below {G : Nat → Prop} {W W' : World} (hb : Below W.heap.size W W') (hG : ∀ k, G k → k < W.heap.size) : KeepG G W W' := fun k hk => hb.block k (hG k hk)
/-- A box of the call's own, and in it an own slice. -/
structure BoxOwn (w : World) (b0 B sz : Nat) (v : Value) (n : Nat) (xs : List Value) : Prop where
  lt : B < w.heap.size
  c : w.cell? ⟨B, 0, none⟩ = some v
  f : w.frozen? ⟨B, 0, none⟩ = false
  own : Own w b0 sz v n xs
  ne : v.ownBlock ≠ some B
theorem BoxOwn.lull {A : Nat} {w w' : World} {b0 B sz n : Nat} {v : Value} {xs : List Value} (h : BoxOwn w b0 B sz v n xs) (hk : Lull A w w') : BoxOwn w' b0 B sz v n xs :=
  ⟨Nat.lt_of_lt_of_le h.lt hk.size, hk.cell h.c, (hk.frozen h.c).trans h.f, h.own.lull hk, h.ne⟩
theorem BoxOwn.below {w w' : World} {b0 B sz n : Nat} {v : Value} {xs : List Value} (h : BoxOwn w b0 B sz v n xs) (hb : Below w.heap.size w w') : BoxOwn w' b0 B sz v n xs :=
  ⟨Nat.lt_of_lt_of_le h.lt hb.size, (hb.cell (p := ⟨B, 0, none⟩) h.lt).trans h.c, (hb.frozen (p := ⟨B, 0, none⟩) h.lt).trans h.f, h.own.below hb, h.ne⟩
/-- What was appended is stored. -/
theorem BoxOwn.store {w w1 : World} {b0 B sz n m : Nat} {v v' : Value} {xs ys : List Value} (h : BoxOwn w b0 B sz v n xs) (ho : Own w1 b0 sz v' m ys) (hk : Keeps (fun k => v.ownBlock = some k ∧ b0 ≤ k) w w1)
    (hat : v'.ownBlock = v.ownBlock ∨ ∀ k, v'.ownBlock = some k → w.heap.size ≤ k) : BoxOwn (w1.setCell ⟨B, 0, none⟩ v') b0 B sz v' m ys ∧ w1.cell? ⟨B, 0, none⟩ = some v ∧ w1.frozen? ⟨B, 0, none⟩ = false ∧ Keeps (fun k => k = B ∨ (v.ownBlock = some k ∧ b0 ≤ k)) w (w1.setCell ⟨B, 0, none⟩ v') := by
  have hh : w1.heap[B]? = w.heap[B]? := hk.block B h.lt (fun e => h.ne e.1)
  have hc : w1.cell? ⟨B, 0, none⟩ = some v := (World.cell?_of_block (w := w) hh).trans h.c
  have hf : w1.frozen? ⟨B, 0, none⟩ = false := (World.frozen?_of_block (w := w) hh).trans h.f
  have hne : v'.ownBlock ≠ some B := by
    rcases hat with e | e
    · rw [e]; exact h.ne
    · intro e2
      have := e B e2
      have := h.lt
      omega
  have hs : Keeps (fun k => k = B) w1 (w1.setCell ⟨B, 0, none⟩ v') := Keeps.setCell (F := fun k => k = B) w1 (a := ⟨B, 0, none⟩) rfl _
  refine ⟨⟨Nat.lt_of_lt_of_le (Nat.lt_of_lt_of_le h.lt hk.size) hs.size, World.cell?_setCell_same' _ _ _ (by rw [hc]; rfl), by rw [World.frozen?_setCell]; exact hf, ho.keeps hs (fun k hk _ e => hne (by rw [← e]; exact hk)), hne⟩, hc, hf, ?_⟩
  exact (hk.mono fun k _ e => .inr e).trans (hs.mono fun k _ e => .inl e)
/-- What a round of a loop over an iterator owes, where it appends to the slice in its box. -/
theorem BoxOwn.round {w W w1 : World} {o : Obj} {A b0 B sz n m : Nat} {v v' : Value} {xs ys : List Value} {G : Nat → Prop} (h : BoxOwn W b0 B sz v n xs) (hsz : 0 < sz) (hv : n = 0 → v = .slice none 0 0) (hb : Below b0 w W) (hw : b0 ≤ w.heap.size) (hB : b0 ≤ B) (hA : B < A) (hG : ∀ k, G k → k < b0)
    (ho : Own w1 b0 sz v' m ys) (hk : Keeps (fun k => v.ownBlock = some k ∧ b0 ≤ k) (W.alloc o) w1) (hat : v'.ownBlock = v.ownBlock ∨ ∀ k, v'.ownBlock = some k → (W.alloc o).heap.size ≤ k) :
    KeepsFrom A W (w1.setCell ⟨B, 0, none⟩ v') ∧ KeepG G W (w1.setCell ⟨B, 0, none⟩ v') ∧ BoxOwn (w1.setCell ⟨B, 0, none⟩ v') b0 B sz v' m ys ∧ Below b0 w (w1.setCell ⟨B, 0, none⟩ v') ∧ w1.cell? ⟨B, 0, none⟩ = some v ∧ w1.frozen? ⟨B, 0, none⟩ = false := by
  have hal : Below W.heap.size W (W.alloc o) := below_alloc (Below.refl _ _) o
  obtain ⟨h1, h2, h3, h4⟩ := (h.below hal).store ho hk hat
  have hK := (Keeps.of_below (F := fun k => k = B ∨ (v.ownBlock = some k ∧ b0 ≤ k)) hal).trans h4
  have hs := hb.size
  refine ⟨KeepsFrom.of_keeps hK fun k hF hlt hAk => ?_, KeepG.of_keeps hK (fun k hk => ?_) (fun k hk hF => ?_), h1, hb.trans (hK.below (by omega) fun k hF => ?_), h2, h3⟩
  · rcases hF with e | ⟨e, _⟩
    · omega
    · rcases Nat.eq_zero_or_pos n with hn | hn
      · rw [hv hn] at e; cases e
      · exact h.own.isCells hn hsz e
  · have := hG k hk; omega
  · have := hG k hk
    rcases hF with e | e
    · omega
    · omega
  · rcases hF with e | e
    · omega
    · exact e.2
/-- What a round of a loop over an iterator owes, where it appends to the slice in its box; the slice is newer than the loop. -/
theorem BoxOwn.round2 {W w1 : World} {o : Obj} {A b0 B sz n m : Nat} {v v' : Value} {xs ys : List Value} {G : Nat → Prop} (h : BoxOwn W b0 B sz v n xs) (hsz : 0 < sz) (hv : n = 0 → v = .slice none 0 0) (hA : B < A) (hG : ∀ k, G k → k < W.heap.size ∧ k ≠ B ∧ k < b0)
    (ho : Own w1 b0 sz v' m ys) (hk : Keeps (fun k => v.ownBlock = some k ∧ b0 ≤ k) (W.alloc o) w1) (hat : v'.ownBlock = v.ownBlock ∨ ∀ k, v'.ownBlock = some k → (W.alloc o).heap.size ≤ k) :
    KeepsFrom A W (w1.setCell ⟨B, 0, none⟩ v') ∧ KeepG G W (w1.setCell ⟨B, 0, none⟩ v') ∧ BoxOwn (w1.setCell ⟨B, 0, none⟩ v') b0 B sz v' m ys ∧ Keeps (fun k => k = B ∨ b0 ≤ k) W (w1.setCell ⟨B, 0, none⟩ v') ∧ w1.cell? ⟨B, 0, none⟩ = some v ∧ w1.frozen? ⟨B, 0, none⟩ = false := by
  have hal : Below W.heap.size W (W.alloc o) := below_alloc (Below.refl _ _) o
  obtain ⟨h1, h2, h3, h4⟩ := (h.below hal).store ho hk hat
  have hK := (Keeps.of_below (F := fun k => k = B ∨ (v.ownBlock = some k ∧ b0 ≤ k)) hal).trans h4
  refine ⟨KeepsFrom.of_keeps hK fun k hF hlt hAk => ?_, KeepG.of_keeps hK (fun k hk => (hG k hk).1) (fun k hk hF => ?_), h1, hK.mono fun k _ e => e.imp id (·.2), h2, h3⟩
  · rcases hF with e | ⟨e, _⟩
    · omega
    · rcases Nat.eq_zero_or_pos n with hn | hn
      · rw [hv hn] at e; cases e
      · exact h.own.isCells hn hsz e
  · obtain ⟨g1, g2, g3⟩ := hG k hk
    rcases hF with e | ⟨_, e⟩
    · exact g2 e
    · omega
/-- What a round of a loop over an iterator owes, where it appends to the slice in its box; the slice is newer than the loop, and lies in cells, if anywhere. -/
theorem BoxOwn.round3 {W w1 : World} {o : Obj} {A b0 B sz n m : Nat} {v v' : Value} {xs ys : List Value} {G : Nat → Prop} (h : BoxOwn W b0 B sz v n xs) (hv : ∀ k, v.ownBlock = some k → ∃ o, W.heap[k]? = some o ∧ o.isCells = true) (hA : B < A) (hG : ∀ k, G k → k < W.heap.size ∧ k ≠ B ∧ k < b0)
    (ho : Own w1 b0 sz v' m ys) (hk : Keeps (fun k => v.ownBlock = some k ∧ b0 ≤ k) (W.alloc o) w1) (hat : v'.ownBlock = v.ownBlock ∨ ∀ k, v'.ownBlock = some k → (W.alloc o).heap.size ≤ k) :
    KeepsFrom A W (w1.setCell ⟨B, 0, none⟩ v') ∧ KeepG G W (w1.setCell ⟨B, 0, none⟩ v') ∧ BoxOwn (w1.setCell ⟨B, 0, none⟩ v') b0 B sz v' m ys ∧ Keeps (fun k => k = B ∨ b0 ≤ k) W (w1.setCell ⟨B, 0, none⟩ v') ∧ w1.cell? ⟨B, 0, none⟩ = some v ∧ w1.frozen? ⟨B, 0, none⟩ = false := by
  have hal : Below W.heap.size W (W.alloc o) := below_alloc (Below.refl _ _) o
  obtain ⟨h1, h2, h3, h4⟩ := (h.below hal).store ho hk hat
  have hK := (Keeps.of_below (F := fun k => k = B ∨ (v.ownBlock = some k ∧ b0 ≤ k)) hal).trans h4
  refine ⟨KeepsFrom.of_keeps hK fun k hF hlt hAk => ?_, KeepG.of_keeps hK (fun k hk => (hG k hk).1) (fun k hk hF => ?_), h1, hK.mono fun k _ e => e.imp id (·.2), h2, h3⟩
  · rcases hF with e | ⟨e, _⟩
    · omega
    · exact hv k e
  · obtain ⟨g1, g2, g3⟩ := hG k hk
    rcases hF with e | ⟨_, e⟩
    · exact g2 e
    · omega
/-- The slice lies in cells from block A on, if anywhere. -/
def Seat (W : World) (A : Nat) (v : Value) : Prop := ∀ k, v.ownBlock = some k → A ≤ k ∧ ∃ o, W.heap[k]? = some o ∧ o.isCells = true
theorem Seat.nil (W : World) (A : Nat) : Seat W A (.slice none 0 0) := fun k h => by cases h
theorem Seat.lull {B A : Nat} {W W' : World} {v : Value} (h : Seat W A v) (hL : Lull B W W') : Seat W' A v := fun k hk => by
  obtain ⟨h1, o, h2, h3⟩ := h k hk
  exact ⟨h1, o, hL.cells k o h2 h3, h3⟩
theorem Seat.keeps {F : Nat → Prop} {A : Nat} {W W' : World} {v : Value} (h : Seat W A v) (hk : Keeps F W W') (hF : ∀ k, F k → k < A) : Seat W' A v := fun k hkv => by
  obtain ⟨h1, o, h2, h3⟩ := h k hkv
  exact ⟨h1, o, (hk.block k (Array.getElem?_eq_some_iff.1 h2).1 (fun hf => by have := hF k hf; omega)).trans h2, h3⟩
theorem Seat.below {A : Nat} {W W' : World} {v : Value} (h : Seat W A v) (hb : Below W.heap.size W W') : Seat W' A v := h.keeps (F := fun _ => False) (Keeps.of_below hb) (fun _ h => h.elim)
theorem Seat.of_own {A sz n : Nat} {W : World} {v : Value} {xs : List Value} (h : Own W A sz v n xs) (hn : 0 < n) (hsz : 0 < sz) : Seat W A v := fun k hk => by
  refine ⟨?_, h.isCells hn hsz hk⟩
  rcases h.2 with ⟨h0, _⟩ | ⟨g, off, c, rfl, h1, _⟩
  · omega
  · cases hk; exact h1
end Go.Proofs.YtnecmpgcjgkheaaGreat
namespace Go.Proofs.YtnecmpgcjgkheaaGreat
open Go.RowKit
section
variable {F : Fence} {P : Program} {ops : Array Oper} {md : Region.Mode} {C : World → Prop} {m : Nat}
end
end Go.Proofs.YtnecmpgcjgkheaaGreat
