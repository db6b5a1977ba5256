/-
  Plain laws of layer 26 (fields): how pieces are parted, as plain functions of lists.
-/
import Derived.Test.YtkinjjgaecbogaaProg
import Derived.Test.YtkinjjgaecbogaaOpen
namespace Go.Proofs.Ytkinjjgaecbogaa
open Go.ChangeShapes Go.WideShapes Go.ChangeAt Go.RowKit
set_option maxRecDepth 100000
/-- The struct api.Piece. -/
structure Piece where
  ex : Bool
  q : Bool
  text : List UInt8
  deriving DecidableEq
def Piece.cells (x : Piece) : List Value := [.bool x.ex, .bool x.q, .string (B x.text)]
def Piece.Ok (x : Piece) : Prop := x.text.length ≤ 9223372036854775807
theorem piece_cells : Try.prog.cellsOf 51 = 3 := by kernel_rfl
theorem Piece.len (x : Piece) : x.cells.length = 3 := rfl
theorem piece_dec {H : Type} {enc : TypeId × Value → H} {w : World} {fuel : Nat} {cs : List Value} {d : DataW H × List MemPlace}
    (h : DataW.trod enc Try.prog w 0 (fun _ => true) true fuel 51 cs = some d) : ∃ x : Piece, cs = x.cells ∧ x.Ok := by
  obtain ⟨ys, n, _, _, hl, hyl, hf⟩ := DataW.trod_struct Try.underlying51 h
  rw [piece_cells] at hl
  match cs, hl with
  | [c0, c1, c2], _ =>
    have k0 : Try.prog.cellsOf 4 = 1 := by kernel_rfl
    have k1 : Try.prog.cellsOf 9 = 1 := by kernel_rfl
    have h0 := hf 0 _ rfl
    have h1 := hf 1 _ rfl
    have h2 := hf 2 _ rfl
    simp [k0, k1] at h0 h1 h2
    have hy0 : ys[0]? = some (ys[0]'(by rw [hyl]; decide)) := List.getElem?_eq_getElem _
    obtain ⟨q0, e0, _⟩ := DataW.trod_bool Try.underlying4 (h0.trans hy0)
    have hy1 : ys[1]? = some (ys[1]'(by rw [hyl]; decide)) := List.getElem?_eq_getElem _
    obtain ⟨q1, e1, _⟩ := DataW.trod_bool Try.underlying4 (h1.trans hy1)
    have hy2 : ys[2]? = some (ys[2]'(by rw [hyl]; decide)) := List.getElem?_eq_getElem _
    obtain ⟨s2, e2, _, w2⟩ := DataW.trod_string Try.underlying9 (h2.trans hy2)
    obtain ⟨a2, rfl⟩ := B_all s2
    rw [B_size] at w2
    simp at e0
    simp at e1
    simp at e2
    subst e0
    subst e1
    subst e2
    exact ⟨⟨q0, q1, a2⟩, rfl, w2⟩

/-- A byte, or a quoted piece without bytes. -/
structure Un where
  b : UInt8
  none : Bool
  quoted : Bool
  parts : Bool
  deriving DecidableEq
def Un.val (u : Un) : Value := .agg #[.int .u8 u.b.toNat, .bool u.none, .bool u.quoted, .bool u.parts]
/-- A field: its text and its pattern. -/
structure Fd where
  text : List UInt8
  pat : List UInt8
  deriving DecidableEq
def Fd.cells (x : Fd) : List Value := [.string (B x.text), .string (B x.pat)]
def headU (p : Piece) : List Un := if p.text = [] ∧ p.q = true then [⟨0, true, true, false⟩] else []
def byteU (p : Piece) (b : UInt8) : Un := ⟨b, false, p.q, p.ex && !p.q⟩
def unitsP (p : Piece) : List Un := headU p ++ p.text.map (byteU p)
def unitsOf (l : List Piece) : List Un := l.flatMap unitsP
/-- What makes fields. -/
structure Mk where
  l : List Fd
  text : List UInt8
  pat : List UInt8
  begun : Bool
  mark : Bool
  deriving DecidableEq
def mk0 : Mk := ⟨[], [], [], false, false⟩
def addM (m : Mk) (u : Un) : Mk := if u.none then { m with begun := true, mark := false } else { m with begun := true, mark := false, text := m.text ++ [u.b], pat := m.pat ++ ((if u.quoted then [92] else []) ++ [u.b]) }
def endM (m : Mk) : Mk := { m with l := m.l ++ [⟨m.text, m.pat⟩], text := [], pat := [], begun := false }
def sepM (m : Mk) (white : Bool) : Mk := if m.begun then { endM m with mark := white } else if white then m else if m.mark then { m with mark := false } else endM m
def whiteB (b : UInt8) : Bool := b == 32 || b == 9 || b == 10
def stepM (sp : List UInt8) (m : Mk) (u : Un) : Mk := if u.none || !u.parts || !sp.contains u.b then addM m u else sepM m (whiteB u.b)
def foldM (sp : List UInt8) (l : List Un) : Mk := l.foldl (stepM sp) mk0
def outM (m : Mk) : List Fd := if m.begun then (endM m).l else m.l
def splitF (l : List Piece) (sp : List UInt8) : List Fd := outM (foldM sp (unitsOf l))
theorem foldM_snoc (sp : List UInt8) (l : List Un) (u : Un) : foldM sp (l ++ [u]) = stepM sp (foldM sp l) u := by simp [foldM, List.foldl_append]
/-- What holds of it, however many units came: n of them. -/
structure MkOk (m : Mk) (n : Nat) : Prop where
  l : m.l.length ≤ n
  t : m.text.length ≤ n
  p : m.pat.length ≤ 2 * n
  e : m.begun = false → m.text = [] ∧ m.pat = []
  a : ∀ f ∈ m.l, f.text.length ≤ n ∧ f.pat.length ≤ 2 * n
theorem mk_ok (sp : List UInt8) (l : List Un) : MkOk (foldM sp l) l.length := by
  have step : ∀ (m : Mk) (n : Nat) (u : Un), MkOk m n → MkOk (stepM sp m u) (n + 1) := by
    intro m n u h
    have hadd : MkOk (addM m u) (n + 1) := by
      unfold addM
      split
      · exact ⟨by have := h.l; simp; omega, by have := h.t; simp; omega, by have := h.p; simp; omega, by simp, fun f hf => by have := h.a f hf; omega⟩
      · refine ⟨by have := h.l; simp; omega, by have := h.t; simp; omega, ?_, by simp, fun f hf => by have := h.a f hf; omega⟩
        have := h.p
        split <;> simp <;> omega
    have hend : MkOk (endM m) (n + 1) := by
      unfold endM
      refine ⟨by have := h.l; simp; omega, by simp, by simp, by simp, fun f hf => ?_⟩
      simp only [List.mem_append, List.mem_singleton] at hf
      rcases hf with hf | rfl
      · have := h.a f hf; omega
      · have := h.t; have := h.p; simp; omega
    unfold stepM
    split
    · exact hadd
    · unfold sepM
      split
      · exact ⟨hend.l, hend.t, hend.p, fun _ => ⟨rfl, rfl⟩, hend.a⟩
      · split
        · exact ⟨by have := h.l; omega, by have := h.t; omega, by have := h.p; omega, h.e, fun f hf => by have := h.a f hf; omega⟩
        · split
          · exact ⟨by have := h.l; simp; omega, by have := h.t; simp; omega, by have := h.p; simp; omega, h.e, fun f hf => by have := h.a f hf; omega⟩
          · exact hend
  have : ∀ (l : List Un) (m : Mk) (n : Nat), MkOk m n → MkOk (l.foldl (stepM sp) m) (n + l.length) := by
    intro l
    induction l with
    | nil => intro m n h; exact h
    | cons u l ih =>
      intro m n h
      have := ih _ _ (step m n u h)
      simp only [List.foldl_cons, List.length_cons]
      rwa [show n + (l.length + 1) = n + 1 + l.length by omega]
  have := this l mk0 0 ⟨by simp [mk0], by simp [mk0], by simp [mk0], fun _ => ⟨rfl, rfl⟩, by simp [mk0]⟩
  rwa [Nat.zero_add] at this
end Go.Proofs.Ytkinjjgaecbogaa
