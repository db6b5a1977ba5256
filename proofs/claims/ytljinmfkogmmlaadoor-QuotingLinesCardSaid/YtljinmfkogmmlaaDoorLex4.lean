/-
  The walk of layer 9's reference (token): all tokens of a text in which nothing is awaited. Conditions: texts of at most 2^29 bytes.
-/
import Derived.Test.YtljinmfkogmmlaaDoorLexA
namespace Go.Proofs.YtljinmfkogmmlaaDoor.Lx
set_option linter.unusedSimpArgs false
set_option linter.unusedVariables false
open Go.ChangeShapes Go.WideShapes Go.Deep Go.RowKit Cls Md
set_option maxRecDepth 100000
/-- A token: its kind, its end, whether it is open. -/
structure Tk where
  kind : Int
  a : Nat
  m : Nat
  o : Bool
def Tk.cells (t : Tk) : List Value := [.int .i64 t.kind, .int .i64 t.a, .int .i64 t.m, .bool t.o]
/-- One token stands at a place, and nothing is awaited behind it. -/
def TokAt (s : List UInt8) (t : Tk) : Prop := t.a < t.m ∧ t.m ≤ s.length ∧ ∃ h : t.a < s.length,
  (0 < blankN (s.drop t.a) ∧ t.kind = 1 ∧ t.m = t.a + blankN (s.drop t.a) ∧ t.o = false) ∨
  (blankN (s.drop t.a) = 0 ∧ s[t.a] = 10 ∧ t.kind = 2 ∧ t.m = t.a + 1 ∧ t.o = false) ∨
  (blankN (s.drop t.a) = 0 ∧ s[t.a] ≠ 10 ∧ s[t.a] ≠ 35 ∧ opL (s.drop t.a) ≠ 0 ∧ opL (s.drop t.a) ≠ 4 ∧ opL (s.drop t.a) ≠ 5 ∧ t.kind = 4 ∧ t.m = t.a + (opT (opL (s.drop t.a))).length ∧ t.o = false) ∨
  (blankN (s.drop t.a) = 0 ∧ s[t.a] ≠ 10 ∧ s[t.a] ≠ 35 ∧ opL (s.drop t.a) = 0 ∧
    (∀ h : t.a + spanN digitB (s.drop t.a) < s.length, 0 < spanN digitB (s.drop t.a) → s[t.a + spanN digitB (s.drop t.a)] ≠ 60 ∧ s[t.a + spanN digitB (s.drop t.a)] ≠ 62) ∧
    t.kind = 6 ∧ t.m = endN s t.a ∧ t.o = !(lets (run ((s.take (endN s t.a)).drop t.a)).l == [84] || lets (run ((s.take (endN s t.a)).drop t.a)).l == [84, 76]))
/-- The tokens from a place on. -/
inductive Toks (s : List UInt8) : Nat → List Tk → Prop
  | done : Toks s s.length []
  | more {t : Tk} {l : List Tk} : TokAt s t → Toks s t.m l → Toks s t.a (t :: l)
theorem Toks.le {s : List UInt8} {a : Nat} {l : List Tk} (h : Toks s a l) : a ≤ s.length := by
  cases h with
  | done => exact Nat.le_refl _
  | more h _ => have := h.1; have := h.2.1; omega
theorem Toks.len {s : List UInt8} {a : Nat} {l : List Tk} (h : Toks s a l) : l.length ≤ s.length - a := by
  induction h with
  | done => simp
  | more h _ ih => have h1 := h.1; have h2 := h.2.1; simp; omega
theorem tok_len {l : List Tk} : ∀ x ∈ l, x.cells.length = 4 := fun _ _ => rfl
theorem tok_flat (xs : List Tk) : (xs.flatMap Tk.cells).length = xs.length * 4 := by induction xs <;> simp_all [Tk.cells]; omega
theorem tok_one {xs : List Tk} : ∀ u ∈ xs.flatMap Tk.cells, u.oneCell' = true := by
  intro u hu
  simp [Tk.cells] at hu
  obtain ⟨a, _, rfl | rfl | rfl | rfl⟩ := hu <;> rfl
theorem own_keeps_ge {F : Nat → Prop} {w w' : World} {b0 sz n : Nat} {v : Value} {xs : List Value} (h : Own w b0 sz v n xs) (hk : Keeps F w w') (hF : ∀ k, F k → k < b0) : Own w' b0 sz v n xs := by
  rcases h.2 with ⟨rfl, rfl | ⟨g, off, rfl, hg⟩⟩ | ⟨g, off, c, rfl, hg, _⟩
  · exact ⟨h.1, .inl ⟨rfl, .inl rfl⟩⟩
  · exact ⟨h.1, .inl ⟨rfl, .inr ⟨g, off, rfl, Nat.lt_of_lt_of_le hg hk.size⟩⟩⟩
  · refine h.keeps hk (fun k q1 _ q3 => ?_)
    simp only [Value.ownBlock, Option.map_some, Option.some.injEq] at q1
    have := hF k q3
    omega
theorem src_one3 (w : World) (o1 o2 : Obj) (cs : List Value) (t : TypeId) : Src (((w.alloc o1).alloc o2).alloc (.cells cs.toArray t)) (.slice (some ⟨w.heap.size + 1 + 1, 0, none⟩) 1 1) 1 cs := by
  have h := Src.one ((w.alloc o1).alloc o2) cs t 1
  rw [show ((w.alloc o1).alloc o2).heap.size = w.heap.size + 1 + 1 by simp] at h
  exact h
/-- What holds at each round of Lex's loop. -/
structure LexI (s : List UInt8) (w : World) (l : List Tk) (a : Nat) (pre post : List Tk) (v : Value) (W : World) : Prop where
  tk : Toks s a post
  eq : l = pre ++ post
  own : Own W (w.heap.size + 2) 4 v pre.length (pre.flatMap Tk.cells)
  bx : BoxN W (w.heap.size + 1) [.int .i64 0, .slice none 0 0, .bool false]
  rs : BoxN W w.heap.size [.int .i64 0, .slice none 0 0, .bool false]
  be : Below w.heap.size w W
def LexP (l : List Tk) (w : World) (e : Ending) (w' : World) : Prop := ∃ v, e = .returned (.tuple #[v, lex0]) ∧ Own w' w.heap.size 4 v l.length (l.flatMap Tk.cells) ∧ Below w.heap.size w w'
end Go.Proofs.YtljinmfkogmmlaaDoor.Lx
