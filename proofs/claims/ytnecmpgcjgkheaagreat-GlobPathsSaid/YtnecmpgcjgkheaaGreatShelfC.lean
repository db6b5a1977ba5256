/-
  Contracts of library functions, laid at this program by the kit's own tools. Conditions: each contract's own.
-/
import Derived.Test.YtnecmpgcjgkheaaGreatTree4
import Derived.Test.YtnecmpgcjgkheaaGreatFil3
import Derived.Test.YtnecmpgcjgkheaaGreatStr
import Derived.Sort.Grow
import Derived.Sort.EncStr
import Derived.Shelf.Strings.Builder1
import Derived.Shelf.Strings.Builder2
import Derived.Shelf.Strings.OnBuilder
import Derived.Shelf.Small.Bits
import Derived.Shelf.Small.Strs
import Derived.Shelf.Strings.BuilderF
import Derived.Shelf.Strings.BuilderK
import Derived.Shelf.Strings.Builder2Cap
import Derived.Shelf.Strconv.Itoa0
import Derived.Shelf.Strings.Search1
import Derived.Shelf.Strings.Search2
import Derived.Shelf.Strings.Search3
import Derived.Shelf.Strings.Cut
import Derived.Shelf.LaysM
import Derived.Shelf.Strings.Shaped
import Derived.Shelf.Sort.Plain
import Derived.Shelf.Strings.LastIndex
import Derived.Shelf.Strings.Prefix
import Derived.Shelf.Strings.BuilderCap
import Derived.Shelf.Slices.CompactS
import Derived.Shelf.Slices.Cells
import Derived.Shelf.Slices.In.SortNone
import Derived.Test.YtnecmpgcjgkheaaGreatProg
set_option linter.unusedSimpArgs false
set_option linter.unusedVariables false
namespace Go.Proofs.YtnecmpgcjgkheaaGreat.Fil
open Go.ChangeShapes Go.WideShapes Go.Deep Go.RowKit Pat
set_option maxRecDepth 100000
end Go.Proofs.YtnecmpgcjgkheaaGreat.Fil
namespace Go.Proofs.YtnecmpgcjgkheaaGreat
open Go.ChangeShapes Go.WideShapes Go.Deep Go.RowKit
theorem tyOf_map (w : World) (b : Nat) (f : Array Value → Array Value) (k : Nat) : tyOf (Go.Sort.mapBlock w b f) k = tyOf w k := by
  by_cases h : b = k
  · subst h
    unfold tyOf Go.Sort.mapBlock
    simp only [Array.getElem?_modify, if_true]
    cases hh : w.heap[b]? with
    | none => simp
    | some o => cases o <;> simp [Go.Sort.onCells]
  · exact tyOf_of_block (by unfold Go.Sort.mapBlock; simp [Array.getElem?_modify, h])
theorem keeps_put {α : Type} [Inhabited α] (enc : α → Value) (w : World) (g off m : Nat) (d : Array α) (os : Array Obj) : Keeps (fun k => k = g) w (Go.Sort.grow (Go.Sort.putRow enc (Go.Sort.ahead w m) g off d) os) := by
  have hb : ∀ k, k < w.heap.size → (Go.Sort.grow (Go.Sort.putRow enc (Go.Sort.ahead w m) g off d) os).heap[k]? = (Go.Sort.putRow enc (Go.Sort.ahead w m) g off d).heap[k]? := fun k hk => Go.Sort.heap_grow_old _ _ (by simpa [Go.Sort.ahead] using hk)
  refine ⟨rfl, rfl, rfl, by simp [Go.Sort.ahead, Go.Sort.grow], fun k hk hne => ?_, fun k hk => ?_⟩
  · rw [hb k hk]
    have : ¬ g = k := fun e => hne e.symm
    simp [Go.Sort.putRow, Go.Sort.mapBlock, Go.Sort.ahead, Array.getElem?_modify, this]
  · rw [tyOf_of_block (hb k hk)]
    exact tyOf_map _ _ _ _
theorem own_holds {α : Type} [Inhabited α] (enc : α → Value) {w : World} {b0 sz g off n c : Nat} {d0 : Array α} (h : Own w b0 sz (.slice (some ⟨g, off, none⟩) n c) n (d0.toList.map enc)) (hn : 0 < n) : Go.Sort.Holds enc w g off d0 ∧ g < w.heap.size ∧ b0 ≤ g := by
  have hl := h.1
  rcases h.2 with ⟨h0, _⟩ | ⟨g', off', c', e, h1, h2, h3, h4, h5, h6⟩
  · omega
  · simp only [Value.slice.injEq, Option.some.injEq, Addr.mk.injEq] at e
    obtain ⟨⟨rfl, rfl, _⟩, _, rfl⟩ := e
    refine ⟨fun j hj => ⟨h6 j _ ?_, (h5 j ?_).2⟩, h2, h1⟩
    · rw [List.getElem?_map, Array.getElem?_toList, Array.getElem?_eq_getElem hj, getElem!_pos d0 j hj]; rfl
    · simp at hl
      have := Nat.mul_le_mul_right sz h3
      omega
theorem own_put {α : Type} [Inhabited α] (enc : α → Value) {w : World} {b0 sz g off n c : Nat} {d0 d : Array α} (h : Own w b0 sz (.slice (some ⟨g, off, none⟩) n c) n (d0.toList.map enc)) (hn : 0 < n) (hd : d.size = d0.size) (m : Nat) (os : Array Obj) :
    Own (Go.Sort.grow (Go.Sort.putRow enc (Go.Sort.ahead w m) g off d) os) b0 sz (.slice (some ⟨g, off, none⟩) n c) n (d.toList.map enc) := by
  obtain ⟨hH, hlt, hb⟩ := own_holds enc h hn
  have hl := h.1
  rcases h.2 with ⟨h0, _⟩ | ⟨g', off', c', e, h1, h2, h3, h4, h5, h6⟩
  · omega
  · simp only [Value.slice.injEq, Option.some.injEq, Addr.mk.injEq] at e
    obtain ⟨⟨rfl, rfl, _⟩, _, rfl⟩ := e
    have hsz : g < (Go.Sort.putRow enc (Go.Sort.ahead w m) g off d).heap.size := by simpa [Go.Sort.ahead] using hlt
    refine ⟨by rw [← hl]; simp [hd], .inr ⟨g, off, c, rfl, hb, by have := (keeps_put enc w g off m d os).size; omega, h3, h4, fun j hj => ⟨?_, ?_⟩, fun j u hu => ?_⟩⟩
    · rw [Go.Sort.cell?_grow _ _ _ hsz]
      by_cases hj2 : j < d.size
      · rw [Go.Sort.cell?_putRow enc (Go.Sort.ahead w m) g off d0 d hH hd j hj2]; rfl
      · rw [Go.Sort.cell?_putRow_other enc (Go.Sort.ahead w m) g off d ⟨g, off + j, none⟩ (.inr (.inr (by show off + d.size ≤ off + j; omega)))]
        exact (h5 j hj).1
    · rw [Go.Sort.frozen?_grow _ _ _ hsz, Go.Sort.frozen?_putRow]
      exact (h5 j hj).2
    · rw [List.getElem?_map, Array.getElem?_toList] at hu
      have hj2 : j < d.size := by
        rcases Nat.lt_or_ge j d.size with q | q
        · exact q
        · rw [Array.getElem?_eq_none q] at hu; cases hu
      rw [Array.getElem?_eq_getElem hj2] at hu
      rw [Go.Sort.cell?_grow _ _ _ hsz, Go.Sort.cell?_putRow enc (Go.Sort.ahead w m) g off d0 d hH hd j hj2, getElem!_pos d j hj2]
      exact hu
theorem strC_map (xs : List (List UInt8)) : xs.flatMap strC = xs.toArray.toList.map Go.Proofs.encStr := by
  induction xs with
  | nil => rfl
  | cons a r ih => rw [List.flatMap_cons, ih]; simp [strC, Go.Proofs.encStr, B]
end Go.Proofs.YtnecmpgcjgkheaaGreat
namespace Go.Proofs.YtnecmpgcjgkheaaGreat
open Go.Shelf
def Tryz.lays190_ren : Go.Shelf.Ren := ⟨fun | 190 => 21 | 125 => 41 | 258 => 40 | 128 => 60 | 129 => 61 | 302 => 51 | 303 => 52 | 304 => 53 | 305 => 54 | 306 => 55 | 307 => 56 | 308 => 57 | 309 => 58 | 310 => 59 | 333 => 73 | 329 => 74 | 330 => 75 | 334 => 76 | 335 => 77 | 336 => 78 | 344 => 89 | n => n, fun | 31 => 26 | 9 => 9 | 3 => 3 | 46 => 75 | 0 => 0 | 51 => 101 | 53 => 84 | 4 => 4 | 183 => 94 | 182 => 93 | 131 => 98 | 5 => 5 | 218 => 108 | 222 => 112 | 228 => 123 | 229 => 88 | n => n, fun | n => n⟩
theorem Tryz.lays190 : Go.Proofs.Lays.n190 Tryz.prog Tryz.lays190_ren := {
  mixed := by kernel_rfl
  f125 := Tryz.func41.trans (congrArg some (by kernel_rfl))
  f128 := Tryz.func60.trans (congrArg some (by kernel_rfl))
  f129 := Tryz.func61.trans (congrArg some (by kernel_rfl))
  f190 := Tryz.func21.trans (congrArg some (by kernel_rfl))
  f258 := Tryz.func40.trans (congrArg some (by kernel_rfl))
  f302 := Tryz.func51.trans (congrArg some (by kernel_rfl))
  f303 := Tryz.func52.trans (congrArg some (by kernel_rfl))
  f304 := Tryz.func53.trans (congrArg some (by kernel_rfl))
  f305 := Tryz.func54.trans (congrArg some (by kernel_rfl))
  f306 := Tryz.func55.trans (congrArg some (by kernel_rfl))
  f307 := Tryz.func56.trans (congrArg some (by kernel_rfl))
  f308 := Tryz.func57.trans (congrArg some (by kernel_rfl))
  f309 := Tryz.func58.trans (congrArg some (by kernel_rfl))
  f310 := Tryz.func59.trans (congrArg some (by kernel_rfl))
  f329 := Tryz.func74.trans (congrArg some (by kernel_rfl))
  f330 := Tryz.func75.trans (congrArg some (by kernel_rfl))
  f333 := Tryz.func73.trans (congrArg some (by kernel_rfl))
  f334 := Tryz.func76.trans (congrArg some (by kernel_rfl))
  f335 := Tryz.func77.trans (congrArg some (by kernel_rfl))
  f336 := Tryz.func78.trans (congrArg some (by kernel_rfl))
  f344 := Tryz.func89.trans (congrArg some (by kernel_rfl))
  t0 := Tryz.underlying0
  a0 := Tryz.isAgg0
  z0 := Tryz.sizeOf0
  v0 := Tryz.zeroValue0
  t3 := Tryz.underlying3
  a3 := Tryz.isAgg3
  z3 := Tryz.sizeOf3
  v3 := Tryz.zeroValue3
  t4 := Tryz.underlying4
  a4 := Tryz.isAgg4
  z4 := Tryz.sizeOf4
  v4 := Tryz.zeroValue4
  t5 := Tryz.underlying5
  a5 := Tryz.isAgg5
  z5 := Tryz.sizeOf5
  v5 := Tryz.zeroValue5
  t9 := Tryz.underlying9
  a9 := Tryz.isAgg9
  z9 := Tryz.sizeOf9
  v9 := Tryz.zeroValue9
  t31 := Tryz.underlying26
  a31 := Tryz.isAgg26
  z31 := Tryz.sizeOf26
  v31 := Tryz.zeroValue26
  t46 := Tryz.underlying75
  a46 := Tryz.isAgg75
  z46 := Tryz.sizeOf75
  v46 := Tryz.zeroValue75
  t51 := Tryz.underlying101
  a51 := Tryz.isAgg101
  z51 := Tryz.sizeOf101
  v51 := Tryz.zeroValue101
  t53 := Tryz.underlying84
  a53 := Tryz.isAgg84
  z53 := Tryz.sizeOf84
  v53 := Tryz.zeroValue84
  t131 := Tryz.underlying98
  a131 := Tryz.isAgg98
  z131 := Tryz.sizeOf98
  v131 := Tryz.zeroValue98
  t182 := Tryz.underlying93
  a182 := Tryz.isAgg93
  z182 := Tryz.sizeOf93
  v182 := Tryz.zeroValue93
  t183 := Tryz.underlying94
  a183 := Tryz.isAgg94
  z183 := Tryz.sizeOf94
  v183 := Tryz.zeroValue94
  t218 := Tryz.underlying108
  a218 := Tryz.isAgg108
  z218 := Tryz.sizeOf108
  v218 := Tryz.zeroValue108
  t222 := Tryz.underlying112
  a222 := Tryz.isAgg112
  z222 := Tryz.sizeOf112
  v222 := Tryz.zeroValue112
  t228 := Tryz.underlying123
  a228 := Tryz.isAgg123
  z228 := Tryz.sizeOf123
  v228 := Tryz.zeroValue123
  t229 := Tryz.underlying88
  a229 := Tryz.isAgg88
  z229 := Tryz.sizeOf88
  v229 := Tryz.zeroValue88 }
open Go.Sort Go.RowKit in
theorem Tryz.slices_Sort_string (blk off cap : Nat) (ss : List (List UInt8)) (w : World) (hH : Holds encStr w blk off ss.toArray) (hblk : blk < w.heap.size) (hsz : ss.length < 4611686018427387904) :
    Calls Tryz.prog 21 #[.slice (some ⟨blk, off, none⟩) ss.length cap] w fun e w' =>
      e = .returned (.tuple #[]) ∧ ∃ n os, w' = Go.Sort.grow (Go.Sort.putRow encStr (Sort.ahead w n) blk off (ss.mergeSort fun x y => decide (x ≤ y)).toArray) os := Any.slices_Sort_string Tryz.lays190 blk off cap ss w hH hblk hsz
def Tryz.lays194_ren : Go.Shelf.Ren := ⟨fun | 194 => 11 | n => n, fun | 31 => 26 | 9 => 9 | 3 => 3 | 4 => 4 | 0 => 0 | n => n, fun | n => n⟩
theorem Tryz.lays194 : Go.Proofs.Lays.n194 Tryz.prog Tryz.lays194_ren := {
  mixed := by kernel_rfl
  f194 := Tryz.func11.trans (congrArg some (by kernel_rfl))
  t0 := Tryz.underlying0
  a0 := Tryz.isAgg0
  z0 := Tryz.sizeOf0
  v0 := Tryz.zeroValue0
  t3 := Tryz.underlying3
  a3 := Tryz.isAgg3
  z3 := Tryz.sizeOf3
  v3 := Tryz.zeroValue3
  t4 := Tryz.underlying4
  a4 := Tryz.isAgg4
  z4 := Tryz.sizeOf4
  v4 := Tryz.zeroValue4
  t9 := Tryz.underlying9
  a9 := Tryz.isAgg9
  z9 := Tryz.sizeOf9
  v9 := Tryz.zeroValue9
  t31 := Tryz.underlying26
  a31 := Tryz.isAgg26
  z31 := Tryz.sizeOf26
  v31 := Tryz.zeroValue26 }
open Go.RowKit Go.Lib Go.Sort in
theorem Tryz.slices_Compact_string (blk off cap : Nat) (zs : List (List UInt8)) (w : World) (hH : Holds encStr w blk off zs.toArray) (hsz : zs.length ≤ 9223372036854775807) (hcap : zs.length ≤ cap) :
    Calls Tryz.prog 11 #[.slice (some ⟨blk, off, none⟩) zs.length cap] w fun e w' => e = .returned (.slice (some ⟨blk, off, none⟩) (Lib.compact zs).length cap) ∧ ∃ q, w' = putRow encStr (Sort.ahead w q) blk off (Lib.compact zs ++ List.replicate (zs.length - (Lib.compact zs).length) []).toArray := Any.slices_Compact_string Tryz.lays194 blk off cap zs w hH hsz hcap
open Go.RowKit Go.Sort in
theorem Tryz.slices_Sort_string_none (p : Option Addr) (cap : Nat) (w : World) :
    Calls Tryz.prog 21 #[.slice p 0 cap] w fun e w' => e = .returned (.tuple #[]) ∧ w' = w := Any.slices_Sort_string_none Tryz.lays190 p cap w
end Go.Proofs.YtnecmpgcjgkheaaGreat
