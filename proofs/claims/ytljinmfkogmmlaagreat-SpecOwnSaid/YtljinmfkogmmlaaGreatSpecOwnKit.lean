/-
  For the law SpecOwn: rows that may be written, and what stays as it was behind a write into them.
-/
import Derived.Test.YtljinmfkogmmlaaGreatRegA
import Derived.Test.YtljinmfkogmmlaaGreatSpecE
namespace Go.Proofs.YtljinmfkogmmlaaGreat.Spc
open Go.ChangeShapes Go.WideShapes Go.Deep Go.RowKit Tab Mc Pa Quo
set_option linter.unusedSimpArgs false
set_option linter.unusedVariables false
set_option maxRecDepth 100000
/-- A row of n cells at A that may be written. -/
def Wr (W : World) (A : Option Addr) (n : Nat) : Prop := ∀ j, j < n → ∃ g off, A = some ⟨g, off, none⟩ ∧ (W.cell? ⟨g, off + j, none⟩).isSome = true ∧ W.frozen? ⟨g, off + j, none⟩ = false
theorem setCell_some (W : World) (a b : Addr) (v : Value) (ha : a.spot = none) (hb : b.spot = none) (h : (W.cell? b).isSome = true) : ((W.setCell a v).cell? b).isSome = true := by
  by_cases e : b = a
  · subst e
    rw [World.cell?_setCell_same' _ _ _ h]; rfl
  · rw [World.cell?_setCell_other _ _ _ _ (fun q => e q.symm)]; exact h
theorem Wr.set {W : World} {A : Option Addr} {n : Nat} (h : Wr W A n) (g o : Nat) (z : Value) : Wr (W.setCell ⟨g, o, none⟩ z) A n := fun j hj => by
  obtain ⟨g', off, e, h1, h2⟩ := h j hj
  exact ⟨g', off, e, setCell_some W _ _ z rfl rfl h1, by rw [World.frozen?_setCell]; exact h2⟩
theorem Wr.keeps {F : Nat → Prop} {W W' : World} {A : Option Addr} {n : Nat} (h : Wr W A n) (hk : Keeps F W W') (hF : 0 < n → ∀ g off, A = some ⟨g, off, none⟩ → ¬ F g) : Wr W' A n := fun j hj => by
  obtain ⟨g, off, e, h1, h2⟩ := h j hj
  obtain ⟨u, hu⟩ := Option.isSome_iff_exists.1 h1
  have hb := hk.block g (World.block_lt_of_cell? W _ hu) (hF (by omega) g off e)
  exact ⟨g, off, e, by rw [World.cell?_of_block (w := W) hb]; exact h1, by rw [World.frozen?_of_block (w := W) hb]; exact h2⟩
theorem own_wr {W : World} {b0 n c : Nat} {A : Option Addr} {xs : List Value} (h : Own W b0 1 (.slice A n c) n xs) : Wr W A n ∧ (0 < n → ∀ g off, A = some ⟨g, off, none⟩ → b0 ≤ g ∧ g < W.heap.size) := by
  rcases h.2 with ⟨h0, _⟩ | ⟨g, off, c', e, h1, h2, h3, h4, h5, h6⟩
  · subst h0
    exact ⟨fun j hj => by omega, fun h => by omega⟩
  · injection e with e1 e2 e3
    subst e1
    refine ⟨fun j hj => ⟨g, off, rfl, (h5 j (by omega)).1, (h5 j (by omega)).2⟩, fun _ g' off' e => ?_⟩
    injection e with e
    injection e with e e'
    subst e
    exact ⟨h1, h2⟩
/-- A block apart from all that the law still needs. -/
def Apart (w : World) (xb ob rb A N g : Nat) : Prop := g ≠ xb ∧ g ≠ ob ∧ g ≠ rb ∧ ¬ (A ≤ g ∧ g < N) ∧ w.heap.size ≤ g
/-- Between the law's loops: the spec's box, a box of a spec with rows that may be written, the registry. -/
structure OwI (w W : World) (xb ob rb A N : Nat) (xc : List Value) (Ta Tw : Option Addr) (n m ca cw : Nat) (u2 u3 u4 u5 v : Value) (zs : List Nm) : Prop where
  x : BoxN W xb xc
  b : BoxN W ob [.slice Ta n ca, .slice Tw m cw, u2, u3, u4, u5]
  ra : Wr W Ta n
  rw : Wr W Tw m
  na : 0 < n → ∀ g off, Ta = some ⟨g, off, none⟩ → Apart w xb ob rb A N g
  nw : 0 < m → ∀ g off, Tw = some ⟨g, off, none⟩ → Apart w xb ob rb A N g
  r : RegAt W A N rb v zs
  h : Below w.heap.size w W
section
variable {w W : World} {xb ob rb A N n m ca cw : Nat} {xc : List Value} {Ta Tw : Option Addr} {u2 u3 u4 u5 v : Value} {zs : List Nm}
theorem OwI.set (h : OwI w W xb ob rb A N xc Ta Tw n m ca cw u2 u3 u4 u5 v zs) {g : Nat} (hg : Apart w xb ob rb A N g) (o : Nat) (z : Value) : OwI w (W.setCell ⟨g, o, none⟩ z) xb ob rb A N xc Ta Tw n m ca cw u2 u3 u4 u5 v zs := by
  have hs : Keeps (fun k => k = g) W (W.setCell ⟨g, o, none⟩ z) := Keeps.setCell (F := fun k => k = g) W (a := ⟨g, o, none⟩) rfl _
  obtain ⟨h1, h2, h3, h4, h5⟩ := hg
  exact ⟨h.x.keeps hs (fun e => h1 e.symm), h.b.keeps hs (fun e => h2 e.symm), h.ra.set g o z, h.rw.set g o z, h.na, h.nw, h.r.keeps hs (fun e => h3 e.symm) (fun k k1 k2 e => h4 (by subst e; exact ⟨k1, k2⟩)), below_keeps h.h hs (fun k e => by omega)⟩
theorem OwI.fst (h : OwI w W xb ob rb A N xc Ta Tw n m ca cw u2 u3 u4 u5 v zs) {k : Nat} (hk : k < n) : ∃ g off, Ta = some ⟨g, off, none⟩ ∧ (∃ u, W.cell? ⟨g, off + k, none⟩ = some u) ∧ W.frozen? ⟨g, off + k, none⟩ = false ∧ g < W.heap.size ∧ Apart w xb ob rb A N g := by
  obtain ⟨g, off, e, h1, h2⟩ := h.ra k hk
  obtain ⟨u, hu⟩ := Option.isSome_iff_exists.1 h1
  exact ⟨g, off, e, ⟨u, hu⟩, h2, World.block_lt_of_cell? W _ hu, h.na (by omega) g off e⟩
theorem OwI.snd (h : OwI w W xb ob rb A N xc Ta Tw n m ca cw u2 u3 u4 u5 v zs) {k : Nat} (hk : k < m) : ∃ g off, Tw = some ⟨g, off, none⟩ ∧ (∃ u, W.cell? ⟨g, off + k, none⟩ = some u) ∧ W.frozen? ⟨g, off + k, none⟩ = false ∧ g < W.heap.size ∧ Apart w xb ob rb A N g := by
  obtain ⟨g, off, e, h1, h2⟩ := h.rw k hk
  obtain ⟨u, hu⟩ := Option.isSome_iff_exists.1 h1
  exact ⟨g, off, e, ⟨u, hu⟩, h2, World.block_lt_of_cell? W _ hu, h.nw (by omega) g off e⟩
end
/-- A row just made: own, of a type, in a block from M on. -/
structure Rw (W : World) (M e : Nat) (v : Value) (n : Nat) (xs : List Value) : Prop where
  o : Own W M 1 v n xs
  t : TyS W v e
  g : ∀ k, v.ownBlock = some k → M ≤ k
theorem Rw.keeps {F : Nat → Prop} {W W' : World} {M e n : Nat} {v : Value} {xs : List Value} (h : Rw W M e v n xs) (hk : Keeps F W W') (hF : ∀ k, F k → tyOf W k ≠ some e) : Rw W' M e v n xs :=
  ⟨h.o.keeps hk fun k e1 _ f => hF k f (h.t k e1), h.t.keeps h.o.lt hk, h.g⟩
theorem Rw.below {W W' : World} {M e n : Nat} {v : Value} {xs : List Value} (h : Rw W M e v n xs) (hb : Below W.heap.size W W') : Rw W' M e v n xs := h.keeps (F := fun _ => False) (Keeps.of_below hb) (fun _ f => f.elim)
theorem Rw.app {W W' : World} {M e n m : Nat} {v v' : Value} {xs ys : List Value} (h : Rw W M e v n xs) (hM : M ≤ W.heap.size) (ho : Own W' M 1 v' m ys) (hk : Keeps (fun k => v.ownBlock = some k ∧ M ≤ k) W W') (hat : v'.ownBlock = v.ownBlock ∨ ∀ k, v'.ownBlock = some k → W.heap.size ≤ k)
    (hty : ∀ k, v'.ownBlock = some k → W.heap.size ≤ k → tyOf W' k = some e) : Rw W' M e v' m ys :=
  ⟨ho, h.t.append h.o.lt hk hat hty, fun k q => by
    rcases hat with e1 | e1
    · rw [e1] at q; exact h.g k q
    · have := e1 k q; omega⟩
theorem Rw.apart {W : World} {M e e2 n : Nat} {v : Value} {xs : List Value} (h : Rw W M e v n xs) (hne : e ≠ e2) : ∀ k, (v.ownBlock = some k ∧ M ≤ k) → tyOf W k ≠ some e2 := fun k q e1 => by
  rw [h.t k q.1] at e1
  exact hne (Option.some.inj e1)
/-- A box of a type, from block M on. -/
structure BoxT (W : World) (M b : Nat) (cs : List Value) (t : TypeId) : Prop where
  bx : BoxN W b cs
  ty : tyOf W b = some t
  ge : M ≤ b
theorem BoxT.keeps {F : Nat → Prop} {W W' : World} {M b : Nat} {cs : List Value} {t : TypeId} (h : BoxT W M b cs t) (hk : Keeps F W W') (hF : ∀ k, F k → tyOf W k ≠ some t) : BoxT W' M b cs t :=
  ⟨h.bx.keeps hk (fun f => hF b f h.ty), (hk.ty b h.bx.lt).trans h.ty, h.ge⟩
theorem BoxT.below {W W' : World} {M b : Nat} {cs : List Value} {t : TypeId} (h : BoxT W M b cs t) (hb : Below W.heap.size W W') : BoxT W' M b cs t := h.keeps (F := fun _ => False) (Keeps.of_below hb) (fun _ f => f.elim)
theorem BoxT.new (W : World) (M : Nat) (cs : List Value) (t : TypeId) (h : M ≤ W.heap.size) : BoxT (W.alloc (.cells cs.toArray t)) M W.heap.size cs t := ⟨BoxN.new W cs t, tyOf_alloc W _ _, h⟩
theorem BoxT.fill {W : World} {M b : Nat} {u0 u1 u2 u3 u4 u5 : Value} {t : TypeId} (h : BoxT W M b [u0, u1, u2, u3, u4, u5] t) (z0 z1 z2 z3 z4 z5 : Value) :
    BoxT ((((((W.setCell ⟨b, 0, none⟩ z0).setCell ⟨b, 1, none⟩ z1).setCell ⟨b, 2, none⟩ z2).setCell ⟨b, 3, none⟩ z3).setCell ⟨b, 4, none⟩ z4).setCell ⟨b, 5, none⟩ z5) M b [z0, z1, z2, z3, z4, z5] t ∧
    Keeps (fun k => k = b) W ((((((W.setCell ⟨b, 0, none⟩ z0).setCell ⟨b, 1, none⟩ z1).setCell ⟨b, 2, none⟩ z2).setCell ⟨b, 3, none⟩ z3).setCell ⟨b, 4, none⟩ z4).setCell ⟨b, 5, none⟩ z5) := by
  obtain ⟨h1, h2⟩ := box_fill6 h.bx z0 z1 z2 z3 z4 z5
  exact ⟨⟨h1, (h2.ty b h.bx.lt).trans h.ty, h.ge⟩, h2⟩
theorem BoxT.apart {W : World} {M b : Nat} {cs : List Value} {t e : TypeId} (h : BoxT W M b cs t) (hne : t ≠ e) : ∀ k, k = b → tyOf W k ≠ some e := fun k q e1 => by
  rw [q, h.ty] at e1
  exact hne (Option.some.inj e1)
/-- A spec just put together of copies: its box, its rows. -/
structure PreI (w W : World) (M ob : Nat) (x : Sp) (xc : List Value) (A3 : Option Addr) (c3 : Nat) (A7 : Option Addr) (c7 : Nat) : Prop where
  bx : BoxN W w.heap.size xc
  be : Below w.heap.size w W
  m : w.heap.size < M
  z : M ≤ W.heap.size
  ra : Rw W M 3 (.slice A3 x.a.length c3) x.a.length (x.a.flatMap numC)
  rw : Rw W M 9 (.slice A7 x.w.length c7) x.w.length (x.w.flatMap strC)
  n : BoxT W M ob [.slice A3 x.a.length c3, .slice A7 x.w.length c7, .string (B x.g), .string (B x.x), .string (B x.p), .string (B x.s)] 26
theorem PreI.own {w W W5 W6 : World} {M ob c3 c7 N : Nat} {x : Sp} {xc : List Value} {A3 A7 : Option Addr} {v : Value} {zs : List Nm} (h : PreI w W M ob x xc A3 c3 A7 c7) (hb : Below W.heap.size W W5)
    (hk : Keeps (fun k => k = W.heap.size ∨ (W.heap.size + 1 ≤ k ∧ k < W.heap.size + 1)) W5 W6) (hr : RegAt W6 (W.heap.size + 1) N W.heap.size v zs) :
    OwI w W6 w.heap.size ob W.heap.size (W.heap.size + 1) N xc A3 A7 x.a.length x.w.length c3 c7 (.string (B x.g)) (.string (B x.x)) (.string (B x.p)) (.string (B x.s)) v zs := by
  have hm := h.m
  have hz := h.z
  have hs := h.be.size
  have ap : ∀ (e n c : Nat) (A : Option Addr) (xs : List Value), e ≠ 26 → Rw W M e (.slice A n c) n xs → 0 < n → ∀ g off, A = some ⟨g, off, none⟩ → Apart w w.heap.size ob W.heap.size (W.heap.size + 1) N g := fun e n c A xs hne hrw hn g off hA => by
    subst hA
    have h1 := hrw.g g rfl
    have h2 := hrw.o.lt g rfl
    refine ⟨by omega, fun q => ?_, by omega, by omega, by omega⟩
    have h3 := hrw.t g rfl
    rw [q, h.n.ty] at h3
    exact hne (Option.some.inj h3).symm
  refine ⟨(h.bx.below hb).keeps hk (by omega), (h.n.bx.below hb).keeps hk (by have := h.n.bx.lt; omega), ((own_wr (h.ra.o.below hb)).1).keeps hk (fun hn g off e => ?_), ((own_wr (h.rw.o.below hb)).1).keeps hk (fun hn g off e => ?_), ap _ _ _ _ _ (by decide) h.ra, ap _ _ _ _ _ (by decide) h.rw, hr, below_keeps (below_then h.be hb) hk (fun k q => by omega)⟩
  · have := (own_wr h.ra.o).2 hn g off e; omega
  · have := (own_wr h.rw.o).2 hn g off e; omega
theorem OwI.again {w W W7 W8 : World} {xb ob rb A N n m ca cw b7 d7 : Nat} {xc : List Value} {Ta Tw B7 D7 : Option Addr} {u2 u3 u4 u5 v : Value} {zs : List Nm} {xs ys : List Value} (h : OwI w W xb ob rb A N xc Ta Tw n m ca cw u2 u3 u4 u5 v zs)
    (hb : Below W.heap.size W W7) (ha : Own W7 W.heap.size 1 (.slice B7 n b7) n xs) (hw : Own W7 W.heap.size 1 (.slice D7 m d7) m ys)
    (h8 : Below (W7.alloc (.cells #[.slice B7 n b7, .slice D7 m d7, u2, u3, u4, u5] 26)).heap.size (W7.alloc (.cells #[.slice B7 n b7, .slice D7 m d7, u2, u3, u4, u5] 26)) W8) :
    OwI w W8 xb W7.heap.size rb A N xc B7 D7 n m b7 d7 u2 u3 u4 u5 v zs := by
  have hal := below_alloc (Below.refl W7.heap.size W7) (.cells #[.slice B7 n b7, .slice D7 m d7, u2, u3, u4, u5] 26)
  have hb78 := below_then hal h8
  have hb8 := below_then hb hb78
  have h1 := h.x.lt
  have h2 := h.r.bx.lt
  have h3 := h.r.nw
  have h4 := h.h.size
  have ap : ∀ (n c : Nat) (A' : Option Addr) (xs : List Value), Own W7 W.heap.size 1 (.slice A' n c) n xs → 0 < n → ∀ g off, A' = some ⟨g, off, none⟩ → Apart w xb W7.heap.size rb A N g := fun n c A' xs ho hn g off e => by
    have h5 := (own_wr ho).2 hn g off e
    exact ⟨by omega, by omega, by omega, by omega, by omega⟩
  exact ⟨h.x.below hb8, (BoxN.new W7 [.slice B7 n b7, .slice D7 m d7, u2, u3, u4, u5] 26).below h8, (own_wr (ha.below hb78)).1, (own_wr (hw.below hb78)).1, ap _ _ _ _ ha, ap _ _ _ _ hw, h.r.below hb8, below_then h.h hb8⟩
end Go.Proofs.YtljinmfkogmmlaaGreat.Spc
