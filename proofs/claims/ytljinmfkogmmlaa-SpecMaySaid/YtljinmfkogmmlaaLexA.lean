/-
  The walks of layers 5 and 9 (operators, tokens): operators, one token of a text. Conditions: as each says.
-/
import Derived.Test.YtljinmfkogmmlaaModA
/-
  The walks of layer 5's reference (oper), and of a part of layer 9's (token): operators, blanks. Conditions: texts of at most 2^29 bytes.
-/
namespace Go.Proofs.Ytljinmfkogmmlaa.Lx
set_option linter.unusedSimpArgs false
set_option linter.unusedVariables false
open Go.ChangeShapes Go.WideShapes Go.Deep Go.RowKit Cls
set_option maxRecDepth 100000
def allOps : List UInt8 := [38, 38, 32, 124, 124, 32, 59, 59, 32, 60, 60, 32, 60, 60, 45, 62, 62, 32, 60, 38, 32, 62, 38, 32, 60, 62, 32, 62, 124, 32, 60, 32, 32, 62, 32, 32, 38, 32, 32, 59, 32, 32, 124, 32, 32, 40, 32, 32, 41, 32, 32]
/-- A text without the blanks at its end. -/
def rtrim (l : List UInt8) : List UInt8 := (l.reverse.dropWhile (· == 32)).reverse
theorem rtrim_snoc (l : List UInt8) : rtrim (l ++ [32]) = rtrim l := by simp [rtrim]
theorem rtrim_no (l : List UInt8) (c : UInt8) (h : c ≠ 32) : rtrim (l ++ [c]) = l ++ [c] := by
  have : (c == 32) = false := by simpa using h
  simp [rtrim, List.dropWhile_cons, this]
theorem rtrim_nil : rtrim [] = [] := rfl
def opT (n : Nat) : List UInt8 := if n = 0 then [] else rtrim ((allOps.take (3 * n)).drop (3 * (n - 1)))
theorem list_last (l : List UInt8) : l = [] ∨ ∃ l' c, l = l' ++ [c] := by
  rcases List.eq_nil_or_concat l with h | ⟨l', c, h⟩
  · exact .inl h
  · exact .inr ⟨l', c, by simpa using h⟩
/-- The operator at the beginning of a text: of the first ones, the longest. -/
def opK (l : List UInt8) : Nat → Nat
  | 0 => 0
  | n + 1 => if (decide ((opT (n + 1)).length ≤ l.length) && (l.take (opT (n + 1)).length == opT (n + 1)) && decide ((opT (opK l n)).length < (opT (n + 1)).length)) = true then n + 1 else opK l n
def opL (l : List UInt8) : Nat := opK l 17
theorem opK_le (l : List UInt8) : ∀ n, opK l n ≤ n
  | 0 => Nat.le_refl _
  | n + 1 => by
    have := opK_le l n
    unfold opK
    split <;> omega
theorem opT_len (n : Nat) (hn : n ≤ 17) : (opT n).length ≤ 3 := by
  have h : ∀ n ∈ List.range 18, (opT n).length ≤ 3 := by decide +kernel
  exact h n (List.mem_range.2 (by omega))
end Go.Proofs.Ytljinmfkogmmlaa.Lx
/-
  The walks of layer 9's reference (token), in part: blanks, one token from a state in which nothing is awaited. Conditions: texts of at most 2^29 bytes.
-/
namespace Go.Proofs.Ytljinmfkogmmlaa.Lx
open Go.ChangeShapes Go.WideShapes Go.Deep Go.RowKit Cls Md
set_option maxRecDepth 100000
/-- How many bytes at the beginning are blank. -/
def blankN : List UInt8 → Nat
  | [] => 0
  | [c] => if c = 32 ∨ c = 9 then 1 else 0
  | c :: d :: l => if c = 32 ∨ c = 9 then 1 + blankN (d :: l) else if c = 92 ∧ d = 10 then 2 + blankN l else 0
theorem blankN_le : ∀ l, blankN l ≤ l.length
  | [] => Nat.le_refl _
  | [c] => by unfold blankN; split <;> simp
  | c :: d :: l => by
    have h1 := blankN_le (d :: l)
    have h2 := blankN_le l
    unfold blankN
    simp at h1 ⊢
    split
    · omega
    · split <;> omega
theorem blankN_a {s : List UInt8} {k : Nat} (h : k < s.length) (hc : s[k] = 32 ∨ s[k] = 9) : blankN (s.drop k) = 1 + blankN (s.drop (k + 1)) := by
  rw [List.drop_eq_getElem_cons h]
  cases hd : s.drop (k + 1) with
  | nil => unfold blankN; rw [if_pos hc]
  | cons d l => conv => lhs; unfold blankN
                rw [if_pos hc]
theorem blankN_b {s : List UInt8} {k : Nat} (h : k < s.length) (h1 : k + 1 < s.length) (hc : s[k] = 92) (hd : s[k + 1] = 10) : blankN (s.drop k) = 2 + blankN (s.drop (k + 2)) := by
  rw [List.drop_eq_getElem_cons h, List.drop_eq_getElem_cons h1]
  conv => lhs; unfold blankN
  rw [if_neg (by rw [hc]; decide), if_pos ⟨hc, hd⟩]
theorem blankN_c {s : List UInt8} {k : Nat} (h : k < s.length) (hc : ¬ (s[k] = 32 ∨ s[k] = 9)) (hd : s[k] = 92 → ∀ h1 : k + 1 < s.length, s[k + 1] ≠ 10) : blankN (s.drop k) = 0 := by
  rw [List.drop_eq_getElem_cons h]
  cases hdr : s.drop (k + 1) with
  | nil => unfold blankN; rw [if_neg hc]
  | cons d l =>
    have h1 : k + 1 < s.length := by
      rcases Nat.lt_or_ge (k + 1) s.length with h1 | h1
      · exact h1
      · rw [List.drop_eq_nil_of_le h1] at hdr; cases hdr
    rw [List.drop_eq_getElem_cons h1] at hdr
    injection hdr with e1 e2
    unfold blankN
    rw [if_neg hc, if_neg]
    rintro ⟨e3, e4⟩
    exact hd e3 h1 (e1.trans e4)
/-- The state in which nothing is awaited. -/
def lex0 : Value := .agg #[.int .i64 0, .slice none 0 0, .bool false]
def tokV (kind : Int) (a b : Nat) (o : Bool) : Value := .agg #[.int .i64 kind, .int .i64 a, .int .i64 b, .bool o]
def StepP (kind : Int) (a b : Nat) (o : Bool) (w : World) (e : Ending) (w' : World) : Prop := e = .returned (.tuple #[tokV kind a b o, lex0]) ∧ Below w.heap.size w w'
theorem box4 {w : World} {b : Nat} {u0 u1 u2 u3 : Value} (h : BoxN w b [u0, u1, u2, u3]) : (w.cell? ⟨b, 0, none⟩ = some u0 ∧ w.cell? ⟨b, 1, none⟩ = some u1 ∧ w.cell? ⟨b, 2, none⟩ = some u2 ∧ w.cell? ⟨b, 3, none⟩ = some u3) ∧ (w.frozen? ⟨b, 0, none⟩ = false ∧ w.frozen? ⟨b, 1, none⟩ = false ∧ w.frozen? ⟨b, 2, none⟩ = false ∧ w.frozen? ⟨b, 3, none⟩ = false) :=
  ⟨⟨h.c 0 _ rfl, h.c 1 _ rfl, h.c 2 _ rfl, h.c 3 _ rfl⟩, h.f 0, h.f 1, h.f 2, h.f 3⟩
theorem box3 {w : World} {b : Nat} {u0 u1 u2 : Value} (h : BoxN w b [u0, u1, u2]) : (w.cell? ⟨b, 0, none⟩ = some u0 ∧ w.cell? ⟨b, 1, none⟩ = some u1 ∧ w.cell? ⟨b, 2, none⟩ = some u2) ∧ (w.frozen? ⟨b, 0, none⟩ = false ∧ w.frozen? ⟨b, 1, none⟩ = false ∧ w.frozen? ⟨b, 2, none⟩ = false) :=
  ⟨⟨h.c 0 _ rfl, h.c 1 _ rfl, h.c 2 _ rfl⟩, h.f 0, h.f 1, h.f 2⟩
/-- The frame of Step: the state that came in, the results' blocks. -/
structure SFr (w D : World) : Prop where
  bx : BoxN D w.heap.size [.int .i64 0, .slice none 0 0, .bool false]
  tk : BoxN D (w.heap.size + 1) [.int .i64 0, .int .i64 0, .int .i64 0, .bool false]
  lx : BoxN D (w.heap.size + 2) [.int .i64 0, .slice none 0 0, .bool false]
  be : Below w.heap.size w D
theorem SFr.below {w D D' : World} (h : SFr w D) (hb : Below D.heap.size D D') : SFr w D' := ⟨h.bx.below hb, h.tk.below hb, h.lx.below hb, below_then h.be hb⟩
theorem SFr.new (w : World) (t1 t2 t3 : TypeId) : SFr w (((w.alloc (.cells #[.int .i64 0, .slice none 0 0, .bool false] t1)).alloc (.cells #[.int .i64 0, .int .i64 0, .int .i64 0, .bool false] t2)).alloc (.cells #[.int .i64 0, .slice none 0 0, .bool false] t3)) := by
  have h1 := BoxN.new w [.int .i64 0, .slice none 0 0, .bool false] t1
  have h2 := BoxN.new (w.alloc (.cells #[.int .i64 0, .slice none 0 0, .bool false] t1)) [.int .i64 0, .int .i64 0, .int .i64 0, .bool false] t2
  have h3 := BoxN.new ((w.alloc (.cells #[.int .i64 0, .slice none 0 0, .bool false] t1)).alloc (.cells #[.int .i64 0, .int .i64 0, .int .i64 0, .bool false] t2)) [.int .i64 0, .slice none 0 0, .bool false] t3
  rw [show (w.alloc (.cells #[.int .i64 0, .slice none 0 0, .bool false] t1)).heap.size = w.heap.size + 1 by simp] at h2
  rw [show ((w.alloc (.cells #[.int .i64 0, .slice none 0 0, .bool false] t1)).alloc (.cells #[.int .i64 0, .int .i64 0, .int .i64 0, .bool false] t2)).heap.size = w.heap.size + 2 by simp] at h3
  exact ⟨(h1.below (below_alloc (Below.refl _ _) _)).below (below_alloc (Below.refl _ _) _), h2.below (below_alloc (Below.refl _ _) _), h3, by (repeat (first | exact Below.refl _ _ | assumption | with_reducible refine below_alloc ?_ _ | with_reducible refine below_grow ?_ _ | with_reducible refine below_drewN ?_ _ | with_reducible refine below_drew ?_ | with_reducible refine below_setCell ?_ (by first | (dsimp only; omega) | (simp; done) | (simp; omega)) _))⟩
theorem keeps_set4 (D : World) (b : Nat) (x0 x1 x2 x3 : Value) : Keeps (fun k => k = b) D ((((D.setCell ⟨b, 0, none⟩ x0).setCell ⟨b, 1, none⟩ x1).setCell ⟨b, 2, none⟩ x2).setCell ⟨b, 3, none⟩ x3) := (keeps_set3 D b x0 x1 x2).trans (Keeps.setCell (F := fun k => k = b) _ (a := ⟨b, 3, none⟩) rfl x3)
theorem box_set4 {D : World} {b : Nat} {u0 u1 u2 u3 : Value} (h : BoxN D b [u0, u1, u2, u3]) (x0 x1 x2 x3 : Value) : BoxN ((((D.setCell ⟨b, 0, none⟩ x0).setCell ⟨b, 1, none⟩ x1).setCell ⟨b, 2, none⟩ x2).setCell ⟨b, 3, none⟩ x3) b [x0, x1, x2, x3] := by
  have h3 : BoxN D b [u0, u1, u2] := ⟨h.lt, fun j u hj => h.c j u (by
    match j, hj with
    | 0, hj => exact hj
    | 1, hj => exact hj
    | 2, hj => exact hj), h.f⟩
  have hs := box_set3 h3 x0 x1 x2
  refine ⟨by have := hs.lt; simpa [World.setCell] using this, fun j u hj => ?_, fun j => by rw [World.frozen?_setCell]; exact hs.f j⟩
  match j, hj with
  | 0, hj => rw [World.cell?_setCell_other _ _ _ _ (by simp)]; exact hs.c 0 u hj
  | 1, hj => rw [World.cell?_setCell_other _ _ _ _ (by simp)]; exact hs.c 1 u hj
  | 2, hj => rw [World.cell?_setCell_other _ _ _ _ (by simp)]; exact hs.c 2 u hj
  | 3, hj =>
    cases hj
    refine World.cell?_setCell_same' _ _ _ ?_
    rw [World.cell?_setCell_other _ _ _ _ (by simp), World.cell?_setCell_other _ _ _ _ (by simp), World.cell?_setCell_other _ _ _ _ (by simp), h.c 3 _ rfl]
    rfl
end Go.Proofs.Ytljinmfkogmmlaa.Lx
/-
  The walks of layer 9's reference (token), on: a newline, an operator, a word, from a state in which nothing is awaited. Conditions: texts of at most 2^29 bytes.
-/
namespace Go.Proofs.Ytljinmfkogmmlaa.Lx
open Go.ChangeShapes Go.WideShapes Go.Deep Go.RowKit Cls Md
set_option maxRecDepth 100000
theorem endFrom_ge (x : St) (i : Nat) (l : List UInt8) : i ≤ endFrom x i l ∧ endFrom x i l ≤ i + l.length := by
  induction l generalizing x i with
  | nil => exact ⟨Nat.le_refl _, Nat.le_refl _⟩
  | cons b l ih =>
    unfold endFrom
    split
    · simp
    · have := ih (Md.step x b.toNat i) (i + 1)
      simp
      omega
theorem endN_ge {s : List UInt8} {a : Nat} (ha : a ≤ s.length) : a ≤ endN s a ∧ endN s a ≤ s.length := by
  have := endFrom_ge first a (s.drop a)
  unfold endN
  rw [List.length_drop] at this
  omega
end Go.Proofs.Ytljinmfkogmmlaa.Lx
