/-
  strings.Builder in a block of the caller's own: what its writers leave, block by block. Conditions: at most 2^46 bytes.
-/
import Derived.Test.YtadaeecokkokjaaGreatAppStr
import Derived.Test.YtadaeecokkokjaaGreatHist
import Derived.Test.YtadaeecokkokjaaGreatPat4
import Derived.Lib.Builder
import Derived.Lib.AppendStr
set_option linter.unusedSimpArgs false
set_option linter.unusedVariables false
namespace Go.Proofs.YtadaeecokkokjaaGreat.Bd
open Go.ChangeShapes Go.WideShapes Go.Deep Go.RowKit
/-- The library's own names of copyCheck's closure, at this program. -/
def bren : Go.Shelf.Ren := ⟨fun | 240 => 69 | 276 => 96 | n => n, fun | 9 => 9 | 4 => 4 | 0 => 0 | 20 => 20 | 72 => 70 | 70 => 67 | 37 => 68 | 164 => 145 | n => n, fun | n => n⟩
theorem blays : Go.Proofs.Lays.n240 Tryz.prog bren := {
  mixed := by kernel_rfl
  f240 := Tryz.func69.trans (congrArg some (by kernel_rfl))
  f276 := Tryz.func96.trans (congrArg some (by kernel_rfl))
  t0 := Tryz.underlying0
  a0 := Tryz.isAgg0
  z0 := Tryz.sizeOf0
  v0 := Tryz.zeroValue0
  t4 := Tryz.underlying4
  a4 := Tryz.isAgg4
  z4 := Tryz.sizeOf4
  v4 := Tryz.zeroValue4
  t9 := Tryz.underlying9
  a9 := Tryz.isAgg9
  z9 := Tryz.sizeOf9
  v9 := Tryz.zeroValue9
  t20 := Tryz.underlying20
  a20 := Tryz.isAgg20
  z20 := Tryz.sizeOf20
  v20 := Tryz.zeroValue20
  t70 := Tryz.underlying67
  a70 := Tryz.isAgg67
  z70 := Tryz.sizeOf67
  v70 := Tryz.zeroValue67
  t72 := Tryz.underlying70
  a72 := Tryz.isAgg70
  z72 := Tryz.sizeOf70
  v72 := Tryz.zeroValue70
  t164 := Tryz.underlying145
  a164 := Tryz.isAgg145
  z164 := Tryz.sizeOf145
  v164 := Tryz.zeroValue145 }
theorem bx72 : Go.Proofs.Builder.X72 Tryz.prog bren := ⟨by kernel_rfl, by kernel_rfl⟩
/-- A builder in block b, its bytes in a block from R on. -/
structure Bld (w : World) (b R : Nat) (v : Value) (l : List UInt8) : Prop where
  at_ : ∃ p, (p = .pointer none ∨ p = .pointer (some ⟨b, 0, none⟩)) ∧ w.heap[b]? = some (.cells #[p, v] 70)
  row : w.ownsRow R 5 1 v l.length (Lib.byteCells l)
  ne : v.ownBlock ≠ some b
theorem Bld.new (w : World) (R : Nat) : Bld (w.alloc (.cells #[.pointer none, .slice none 0 0] 70)) w.heap.size R (.slice none 0 0) [] :=
  ⟨⟨_, .inl rfl, heap_alloc_new w _⟩, World.ownsRow_nil _ _ _ _, by simp [Value.ownBlock]⟩
theorem Bld.lt {w : World} {b R : Nat} {v : Value} {l : List UInt8} (h : Bld w b R v l) : b < w.heap.size := by
  obtain ⟨p, _, hp⟩ := h.at_
  exact (Array.getElem?_eq_some_iff.1 hp).1
theorem Bld.c {w : World} {b R : Nat} {v : Value} {l : List UInt8} (h : Bld w b R v l) : (w.cell? ⟨b, 0, none⟩ = some (.pointer none) ∨ w.cell? ⟨b, 0, none⟩ = some (.pointer (some ⟨b, 0, none⟩))) ∧ w.cell? ⟨b, 1, none⟩ = some v ∧ w.frozen? ⟨b, 0, none⟩ = false ∧ w.frozen? ⟨b, 1, none⟩ = false ∧ w.shape? b = some (70, 2) := by
  obtain ⟨p, hp, hh⟩ := h.at_
  refine ⟨?_, ?_, ?_, ?_, ?_⟩
  · rcases hp with rfl | rfl
    · exact .inl (by rw [Lib.cell_of_heap hh]; rfl)
    · exact .inr (by rw [Lib.cell_of_heap hh]; rfl)
  · rw [Lib.cell_of_heap hh]; rfl
  · exact Lib.frozen_of_heap hh 0
  · exact Lib.frozen_of_heap hh 1
  · simp [World.shape?, hh]
theorem Bld.keeps {F : Nat → Prop} {w w' : World} {b R : Nat} {v : Value} {l : List UInt8} (h : Bld w b R v l) (hk : Keeps F w w') (hb : ¬ F b) (hv : ∀ k, R ≤ k → k < w.heap.size → ¬ F k) : Bld w' b R v l := by
  obtain ⟨p, hp, hh⟩ := h.at_
  refine ⟨⟨p, hp, (hk.block b h.lt hb).trans hh⟩, ?_, h.ne⟩
  obtain ⟨h1, h2⟩ := h.row
  refine ⟨h1, ?_⟩
  rcases h2 with h2 | ⟨g, c, cur, e, hg, hhg, r⟩
  · exact .inl h2
  · have hlt := (Array.getElem?_eq_some_iff.1 hhg).1
    exact .inr ⟨g, c, cur, e, hg, (hk.block g hlt (hv g hg hlt)).trans hhg, r⟩
theorem Bld.below {w w' : World} {b R : Nat} {v : Value} {l : List UInt8} (h : Bld w b R v l) (hb : Below w.heap.size w w') : Bld w' b R v l := h.keeps (F := fun _ => False) (Keeps.of_below hb) (fun h => h) (fun _ _ _ h => h)
theorem Bld.is {w : World} {b R : Nat} {v : Value} {l : List UInt8} (h : Bld w b R v l) {B0 : Nat} (h1 : B0 ≤ b) (h2 : B0 ≤ R) : Lib.IsBuilder 70 5 B0 b (Lib.byteCells l) w := by
  obtain ⟨p, hp, hh⟩ := h.at_
  have hrow : w.ownsRow B0 5 1 v (Lib.byteCells l).length (Lib.byteCells l) := by
    rw [Lib.byteCells_length]
    obtain ⟨r1, r2⟩ := h.row
    refine ⟨r1, ?_⟩
    rcases r2 with r2 | ⟨g, c, cur, e, hg, r⟩
    · exact .inl r2
    · exact .inr ⟨g, c, cur, e, by omega, r⟩
  rcases hp with rfl | rfl
  · exact .inl ⟨h1, v, hh, hrow, h.ne⟩
  · exact .inr ⟨h1, v, hh, hrow, h.ne⟩
/-- The builder behind its first write. -/
theorem Bld.used {w : World} {b R : Nat} {v : Value} {l : List UInt8} (h : Bld w b R v l) : Bld (w.setCell ⟨b, 0, none⟩ (.pointer (some ⟨b, 0, none⟩))) b R v l := by
  obtain ⟨p, hp, hh⟩ := h.at_
  refine ⟨⟨_, .inr rfl, ?_⟩, ?_, h.ne⟩
  · simp [World.setCell, Array.getElem?_modify, hh]
  · exact h.row.kept (row := some b) ⟨rfl, rfl, rfl, by simp [World.setCell], fun k _ hk => Below.heap_setCell _ _ _ _ (fun e => hk (by simp [e]))⟩ (Or.inr h.ne)
theorem copy_any {w : World} {b R : Nat} {v : Value} {l : List UInt8} (h : Bld w b R v l) :
    Calls Tryz.prog 69 #[.pointer (some ⟨b, 0, none⟩)] w fun e w' => e = .returned (.tuple #[]) ∧ Bld w' b R v l ∧ w'.cell? ⟨b, 0, none⟩ = some (.pointer (some ⟨b, 0, none⟩)) ∧ Keeps (fun k => k = b) w w' := by
  obtain ⟨c0, c1, f0, f1, sh⟩ := h.c
  rcases c0 with c0 | c0
  · refine (Any.Builder_copyCheck_fresh blays bx72 b w c0 sh f0).mono ?_
    rintro e w' ⟨rfl, rfl⟩
    exact ⟨rfl, h.used, World.cell?_setCell_same' _ _ _ (by rw [c0]; rfl), Keeps.setCell (F := fun k => k = b) w (a := ⟨b, 0, none⟩) rfl _⟩
  · refine (Any.Builder_copyCheck_used blays bx72 b w c0).mono ?_
    rintro e w' ⟨rfl, rfl⟩
    exact ⟨rfl, h, c0, Keeps.refl _ _⟩
/-- A text appended to a row of bytes of the builder's own. -/
theorem run_append_row {P : Program} (w : World) (base : Nat) (t u ty e : TypeId) (i : TypeInfo) (ht : P.underlying t = some (.slice e)) (hu : P.underlying u = some .string) (hi : P.info? e = some i) (hz : i.zero = some (.int .u8 0))
    (hsize : i.size = 1) (hby : i.bytes = 1) (v : Value) (n : Nat) (xs : List Value) (hown : w.ownsRow base e 1 v n xs) (s : ByteArray)
    (hbytes : n + s.size ≤ 70368744177664) (hbase : base ≤ w.heap.size) :
    ∃ v' w', (Builtin.append_ #[t, u] ty #[v, .string s]).run P w = .ok v' w' ∧ w'.ownsRow base e 1 v' (n + s.size) (xs ++ Lib.strCells s) ∧ Keeps (fun k => base ≤ k) w w' ∧ w.grownBy w' v.ownBlock := by
  obtain ⟨v', w', hr, h2, h3, _⟩ := Lib.run_append_own_string (P := P) w base t u ty e i ht hu hi hz hsize hby v n xs hown s (by unfold maxLen; omega) (by omega) hbase
  refine ⟨v', w', hr, h2, ?_, h3⟩
  refine ⟨h3.os, h3.tape, h3.output, h3.size, fun k hk hF => h3.block k hk (fun e => hF (hown.lt k e.symm).1), fun k hk => ?_⟩
  by_cases hv : v.ownBlock = some k
  · rcases hown.2 with ⟨rfl, _⟩ | ⟨g, cap, cur, rfl, hbg, hg, hnc, hcm, hcs, htake⟩
    · cases hv
    · simp [Value.ownBlock] at hv
      subst hv
      have hxl : xs.length = n := by simpa using hown.1
      by_cases hroom : n + s.size ≤ cap
      · have hcs' : cur.size = cap := by simpa using hcs
        have hr2 := Lib.run_append_room_string (P := P) w t u ty e i ht hu hi hsize g n cap cur hg s hroom (by omega)
        rw [hr] at hr2
        injection hr2 with _ hw
        subst hw
        unfold tyOf
        rw [setRow_heap w g cur _ e _ hg, hg]
      · have holds : ∀ j u, xs[j]? = some u → w.cell? ((⟨g, 0, none⟩ : Addr).add j) = some u := hown.cells (g := g) rfl
        have hr2 := Lib.run_append_grow_string (P := P) w t u ty e i (.int .u8 0) ht hu hi hz ⟨g, 0, none⟩ n cap xs (by rw [hsize]; simpa using hxl) holds s (by omega) (by omega) (by rw [hby]; exact growslice_fits (by omega) (by omega))
        rw [hr] at hr2
        injection hr2 with _ hw
        subst hw
        exact tyOf_alloc_lt w.drew _ g hk
  · exact tyOf_of_block (h3.block k hk (fun e' => hv e'.symm))
theorem wpList_append_row {P : Program} {w : World} {ops : Array Oper} {rest : List Oper} {o : Oper} {a : Act} {Q : Exit → Act → World → Prop} (hgd : o.guard = none) (sl x : Operand) (t u : TypeId)
    (ho : o.op = .call { callee := .builtin .append, args := #[sl, x], argTypes := #[t, u] })
    (base : Nat) (e : TypeId) (i : TypeInfo) (ht : P.underlying t = some (.slice e)) (hu : P.underlying u = some .string) (hi : P.info? e = some i) (hz : i.zero = some (.int .u8 0)) (hsize : i.size = 1) (hby : i.bytes = 1)
    (v : Value) (n : Nat) (xs : List Value) (hs : a.eval sl = v) (hown : w.ownsRow base e 1 v n xs) (s : ByteArray) (hx : a.eval x = .string s)
    (hbytes : n + s.size ≤ 70368744177664) (hbase : base ≤ w.heap.size)
    (h : ∀ v' w', w'.ownsRow base e 1 v' (n + s.size) (xs ++ Lib.strCells s) → Keeps (fun k => base ≤ k) w w' → w.grownBy w' v.ownBlock → wpList P ops Q rest (a.put o.dst v') w') : wpList P ops Q (o :: rest) a w := by
  refine wpList_plain hgd fun K hK => ?_
  obtain ⟨v', w', hr, h2, h3, h4⟩ := run_append_row (P := P) w base t u o.type e i ht hu hi hz hsize hby v n xs hown s hbytes hbase
  unfold Oper.wp execOp
  simp only [ho, resolve, invoke, builtin, Sem.run_bind, Sem.run_pure, Result.andThen_ok, List.map_toArray, List.map_cons, List.map_nil, hs, hx, hr]
  exact hK _ _ (h v' w' h2 h3 h4)
/-- What was appended is stored. -/
theorem Bld.store {w w2 : World} {b R : Nat} {v v' : Value} {l l' : List UInt8} (h : Bld w b R v l) (hc : w.cell? ⟨b, 0, none⟩ = some (.pointer (some ⟨b, 0, none⟩))) (ho : w2.ownsRow R 5 1 v' l'.length (Lib.byteCells l')) (hg : w.grownBy w2 v.ownBlock) :
    w2.cell? ⟨b, 0, none⟩ = some (.pointer (some ⟨b, 0, none⟩)) ∧ w2.cell? ⟨b, 1, none⟩ = some v ∧ w2.frozen? ⟨b, 1, none⟩ = false ∧ Bld (w2.setCell ⟨b, 1, none⟩ v') b R v' l' := by
  have hb : w2.heap[b]? = w.heap[b]? := hg.block b h.lt (fun e => h.ne e.symm)
  obtain ⟨p, hp, hh⟩ := h.at_
  have hh2 := hb.trans hh
  have hp2 : p = .pointer (some ⟨b, 0, none⟩) := by
    rw [Lib.cell_of_heap hh] at hc
    simpa using hc
  subst hp2
  have hne : v'.ownBlock ≠ some b := Lib.ownBlock_ne ho hh2 (by decide)
  refine ⟨by rw [Lib.cell_of_heap hh2]; rfl, by rw [Lib.cell_of_heap hh2]; rfl, Lib.frozen_of_heap hh2 1, ⟨_, .inr rfl, ?_⟩, ?_, hne⟩
  · simp [World.setCell, Array.getElem?_modify, hh2]
  · exact ho.kept (row := some b) ⟨rfl, rfl, rfl, by simp [World.setCell], fun k _ hk => Below.heap_setCell _ _ _ _ (fun e => hk (by simp [e]))⟩ (Or.inr hne)
end Go.Proofs.YtadaeecokkokjaaGreat.Bd
