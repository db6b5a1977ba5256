/-
  Contracts of library functions, laid at this program by the kit's own tools. Conditions: each contract's own.
-/
import Derived.Test.YtnecmpgcjgkheaaTree4
import Derived.Test.YtnecmpgcjgkheaaFil3
import Derived.Test.YtnecmpgcjgkheaaStr
import Derived.Sort.Grow
import Derived.Sort.EncStr
import Derived.Shelf.Strings.Builder1
import Derived.Shelf.Strings.Builder2
import Derived.Shelf.Strings.OnBuilder
import Derived.Shelf.Small.Bits
import Derived.Shelf.Small.Strs
import Derived.Shelf.Strings.BuilderF
import Derived.Shelf.Strings.BuilderK
import Derived.Shelf.Strings.Builder2Cap
import Derived.Shelf.Strconv.Itoa0
import Derived.Shelf.Strings.Search1
import Derived.Shelf.Strings.Search2
import Derived.Shelf.Strings.Search3
import Derived.Shelf.Strings.Cut
import Derived.Shelf.LaysM
import Derived.Shelf.Strings.Shaped
import Derived.Shelf.Sort.Plain
import Derived.Shelf.Strings.LastIndex
import Derived.Shelf.Strings.Prefix
import Derived.Shelf.Strings.BuilderCap
import Derived.Shelf.Slices.CompactS
import Derived.Shelf.Slices.Cells
import Derived.Shelf.Slices.In.SortNone
import Derived.Test.YtnecmpgcjgkheaaProg
set_option linter.unusedSimpArgs false
set_option linter.unusedVariables false
namespace Go.Proofs.Ytnecmpgcjgkheaa.Fil
open Go.ChangeShapes Go.WideShapes Go.Deep Go.RowKit Pat
set_option maxRecDepth 100000
end Go.Proofs.Ytnecmpgcjgkheaa.Fil
namespace Go.Proofs.Ytnecmpgcjgkheaa
open Go.ChangeShapes Go.WideShapes Go.Deep Go.RowKit
theorem tyOf_map (w : World) (b : Nat) (f : Array Value → Array Value) (k : Nat) : tyOf (Go.Sort.mapBlock w b f) k = tyOf w k := by
  by_cases h : b = k
  · subst h
    unfold tyOf Go.Sort.mapBlock
    simp only [Array.getElem?_modify, if_true]
    cases hh : w.heap[b]? with
    | none => simp
    | some o => cases o <;> simp [Go.Sort.onCells]
  · exact tyOf_of_block (by unfold Go.Sort.mapBlock; simp [Array.getElem?_modify, h])
theorem keeps_put {α : Type} [Inhabited α] (enc : α → Value) (w : World) (g off m : Nat) (d : Array α) (os : Array Obj) : Keeps (fun k => k = g) w (Go.Sort.grow (Go.Sort.putRow enc (Go.Sort.ahead w m) g off d) os) := by
  have hb : ∀ k, k < w.heap.size → (Go.Sort.grow (Go.Sort.putRow enc (Go.Sort.ahead w m) g off d) os).heap[k]? = (Go.Sort.putRow enc (Go.Sort.ahead w m) g off d).heap[k]? := fun k hk => Go.Sort.heap_grow_old _ _ (by simpa [Go.Sort.ahead] using hk)
  refine ⟨rfl, rfl, rfl, by simp [Go.Sort.ahead, Go.Sort.grow], fun k hk hne => ?_, fun k hk => ?_⟩
  · rw [hb k hk]
    have : ¬ g = k := fun e => hne e.symm
    simp [Go.Sort.putRow, Go.Sort.mapBlock, Go.Sort.ahead, Array.getElem?_modify, this]
  · rw [tyOf_of_block (hb k hk)]
    exact tyOf_map _ _ _ _
theorem own_holds {α : Type} [Inhabited α] (enc : α → Value) {w : World} {b0 sz g off n c : Nat} {d0 : Array α} (h : Own w b0 sz (.slice (some ⟨g, off, none⟩) n c) n (d0.toList.map enc)) (hn : 0 < n) : Go.Sort.Holds enc w g off d0 ∧ g < w.heap.size ∧ b0 ≤ g := by
  have hl := h.1
  rcases h.2 with ⟨h0, _⟩ | ⟨g', off', c', e, h1, h2, h3, h4, h5, h6⟩
  · omega
  · simp only [Value.slice.injEq, Option.some.injEq, Addr.mk.injEq] at e
    obtain ⟨⟨rfl, rfl, _⟩, _, rfl⟩ := e
    refine ⟨fun j hj => ⟨h6 j _ ?_, (h5 j ?_).2⟩, h2, h1⟩
    · rw [List.getElem?_map, Array.getElem?_toList, Array.getElem?_eq_getElem hj, getElem!_pos d0 j hj]; rfl
    · simp at hl
      have := Nat.mul_le_mul_right sz h3
      omega
theorem own_put {α : Type} [Inhabited α] (enc : α → Value) {w : World} {b0 sz g off n c : Nat} {d0 d : Array α} (h : Own w b0 sz (.slice (some ⟨g, off, none⟩) n c) n (d0.toList.map enc)) (hn : 0 < n) (hd : d.size = d0.size) (m : Nat) (os : Array Obj) :
    Own (Go.Sort.grow (Go.Sort.putRow enc (Go.Sort.ahead w m) g off d) os) b0 sz (.slice (some ⟨g, off, none⟩) n c) n (d.toList.map enc) := by
  obtain ⟨hH, hlt, hb⟩ := own_holds enc h hn
  have hl := h.1
  rcases h.2 with ⟨h0, _⟩ | ⟨g', off', c', e, h1, h2, h3, h4, h5, h6⟩
  · omega
  · simp only [Value.slice.injEq, Option.some.injEq, Addr.mk.injEq] at e
    obtain ⟨⟨rfl, rfl, _⟩, _, rfl⟩ := e
    have hsz : g < (Go.Sort.putRow enc (Go.Sort.ahead w m) g off d).heap.size := by simpa [Go.Sort.ahead] using hlt
    refine ⟨by rw [← hl]; simp [hd], .inr ⟨g, off, c, rfl, hb, by have := (keeps_put enc w g off m d os).size; omega, h3, h4, fun j hj => ⟨?_, ?_⟩, fun j u hu => ?_⟩⟩
    · rw [Go.Sort.cell?_grow _ _ _ hsz]
      by_cases hj2 : j < d.size
      · rw [Go.Sort.cell?_putRow enc (Go.Sort.ahead w m) g off d0 d hH hd j hj2]; rfl
      · rw [Go.Sort.cell?_putRow_other enc (Go.Sort.ahead w m) g off d ⟨g, off + j, none⟩ (.inr (.inr (by show off + d.size ≤ off + j; omega)))]
        exact (h5 j hj).1
    · rw [Go.Sort.frozen?_grow _ _ _ hsz, Go.Sort.frozen?_putRow]
      exact (h5 j hj).2
    · rw [List.getElem?_map, Array.getElem?_toList] at hu
      have hj2 : j < d.size := by
        rcases Nat.lt_or_ge j d.size with q | q
        · exact q
        · rw [Array.getElem?_eq_none q] at hu; cases hu
      rw [Array.getElem?_eq_getElem hj2] at hu
      rw [Go.Sort.cell?_grow _ _ _ hsz, Go.Sort.cell?_putRow enc (Go.Sort.ahead w m) g off d0 d hH hd j hj2, getElem!_pos d j hj2]
      exact hu
theorem strC_map (xs : List (List UInt8)) : xs.flatMap strC = xs.toArray.toList.map Go.Proofs.encStr := by
  induction xs with
  | nil => rfl
  | cons a r ih => rw [List.flatMap_cons, ih]; simp [strC, Go.Proofs.encStr, B]
end Go.Proofs.Ytnecmpgcjgkheaa
namespace Go.Proofs.Ytnecmpgcjgkheaa
open Go.Shelf
def Try.lays190_ren : Go.Shelf.Ren := ⟨fun | 190 => 32 | 125 => 45 | 258 => 44 | 128 => 61 | 129 => 62 | 302 => 52 | 303 => 53 | 304 => 54 | 305 => 55 | 306 => 56 | 307 => 57 | 308 => 58 | 309 => 59 | 310 => 60 | 333 => 70 | 329 => 71 | 330 => 72 | 334 => 73 | 335 => 74 | 336 => 75 | 344 => 83 | n => n, fun | 31 => 24 | 9 => 9 | 3 => 3 | 46 => 82 | 0 => 0 | 51 => 96 | 53 => 98 | 4 => 4 | 183 => 89 | 182 => 88 | 131 => 93 | 5 => 5 | 218 => 105 | 222 => 109 | 228 => 121 | 229 => 122 | n => n, fun | n => n⟩
theorem Try.lays190 : Go.Proofs.Lays.n190 Try.prog Try.lays190_ren := {
  mixed := by kernel_rfl
  f125 := Try.func45.trans (congrArg some (by kernel_rfl))
  f128 := Try.func61.trans (congrArg some (by kernel_rfl))
  f129 := Try.func62.trans (congrArg some (by kernel_rfl))
  f190 := Try.func32.trans (congrArg some (by kernel_rfl))
  f258 := Try.func44.trans (congrArg some (by kernel_rfl))
  f302 := Try.func52.trans (congrArg some (by kernel_rfl))
  f303 := Try.func53.trans (congrArg some (by kernel_rfl))
  f304 := Try.func54.trans (congrArg some (by kernel_rfl))
  f305 := Try.func55.trans (congrArg some (by kernel_rfl))
  f306 := Try.func56.trans (congrArg some (by kernel_rfl))
  f307 := Try.func57.trans (congrArg some (by kernel_rfl))
  f308 := Try.func58.trans (congrArg some (by kernel_rfl))
  f309 := Try.func59.trans (congrArg some (by kernel_rfl))
  f310 := Try.func60.trans (congrArg some (by kernel_rfl))
  f329 := Try.func71.trans (congrArg some (by kernel_rfl))
  f330 := Try.func72.trans (congrArg some (by kernel_rfl))
  f333 := Try.func70.trans (congrArg some (by kernel_rfl))
  f334 := Try.func73.trans (congrArg some (by kernel_rfl))
  f335 := Try.func74.trans (congrArg some (by kernel_rfl))
  f336 := Try.func75.trans (congrArg some (by kernel_rfl))
  f344 := Try.func83.trans (congrArg some (by kernel_rfl))
  t0 := Try.underlying0
  a0 := Try.isAgg0
  z0 := Try.sizeOf0
  v0 := Try.zeroValue0
  t3 := Try.underlying3
  a3 := Try.isAgg3
  z3 := Try.sizeOf3
  v3 := Try.zeroValue3
  t4 := Try.underlying4
  a4 := Try.isAgg4
  z4 := Try.sizeOf4
  v4 := Try.zeroValue4
  t5 := Try.underlying5
  a5 := Try.isAgg5
  z5 := Try.sizeOf5
  v5 := Try.zeroValue5
  t9 := Try.underlying9
  a9 := Try.isAgg9
  z9 := Try.sizeOf9
  v9 := Try.zeroValue9
  t31 := Try.underlying24
  a31 := Try.isAgg24
  z31 := Try.sizeOf24
  v31 := Try.zeroValue24
  t46 := Try.underlying82
  a46 := Try.isAgg82
  z46 := Try.sizeOf82
  v46 := Try.zeroValue82
  t51 := Try.underlying96
  a51 := Try.isAgg96
  z51 := Try.sizeOf96
  v51 := Try.zeroValue96
  t53 := Try.underlying98
  a53 := Try.isAgg98
  z53 := Try.sizeOf98
  v53 := Try.zeroValue98
  t131 := Try.underlying93
  a131 := Try.isAgg93
  z131 := Try.sizeOf93
  v131 := Try.zeroValue93
  t182 := Try.underlying88
  a182 := Try.isAgg88
  z182 := Try.sizeOf88
  v182 := Try.zeroValue88
  t183 := Try.underlying89
  a183 := Try.isAgg89
  z183 := Try.sizeOf89
  v183 := Try.zeroValue89
  t218 := Try.underlying105
  a218 := Try.isAgg105
  z218 := Try.sizeOf105
  v218 := Try.zeroValue105
  t222 := Try.underlying109
  a222 := Try.isAgg109
  z222 := Try.sizeOf109
  v222 := Try.zeroValue109
  t228 := Try.underlying121
  a228 := Try.isAgg121
  z228 := Try.sizeOf121
  v228 := Try.zeroValue121
  t229 := Try.underlying122
  a229 := Try.isAgg122
  z229 := Try.sizeOf122
  v229 := Try.zeroValue122 }
open Go.Sort Go.RowKit in
theorem Try.slices_Sort_string (blk off cap : Nat) (ss : List (List UInt8)) (w : World) (hH : Holds encStr w blk off ss.toArray) (hblk : blk < w.heap.size) (hsz : ss.length < 4611686018427387904) :
    Calls Try.prog 32 #[.slice (some ⟨blk, off, none⟩) ss.length cap] w fun e w' =>
      e = .returned (.tuple #[]) ∧ ∃ n os, w' = Go.Sort.grow (Go.Sort.putRow encStr (Sort.ahead w n) blk off (ss.mergeSort fun x y => decide (x ≤ y)).toArray) os := Any.slices_Sort_string Try.lays190 blk off cap ss w hH hblk hsz
def Try.lays194_ren : Go.Shelf.Ren := ⟨fun | 194 => 19 | n => n, fun | 31 => 24 | 9 => 9 | 3 => 3 | 4 => 4 | 0 => 0 | n => n, fun | n => n⟩
theorem Try.lays194 : Go.Proofs.Lays.n194 Try.prog Try.lays194_ren := {
  mixed := by kernel_rfl
  f194 := Try.func19.trans (congrArg some (by kernel_rfl))
  t0 := Try.underlying0
  a0 := Try.isAgg0
  z0 := Try.sizeOf0
  v0 := Try.zeroValue0
  t3 := Try.underlying3
  a3 := Try.isAgg3
  z3 := Try.sizeOf3
  v3 := Try.zeroValue3
  t4 := Try.underlying4
  a4 := Try.isAgg4
  z4 := Try.sizeOf4
  v4 := Try.zeroValue4
  t9 := Try.underlying9
  a9 := Try.isAgg9
  z9 := Try.sizeOf9
  v9 := Try.zeroValue9
  t31 := Try.underlying24
  a31 := Try.isAgg24
  z31 := Try.sizeOf24
  v31 := Try.zeroValue24 }
open Go.RowKit Go.Lib Go.Sort in
theorem Try.slices_Compact_string (blk off cap : Nat) (zs : List (List UInt8)) (w : World) (hH : Holds encStr w blk off zs.toArray) (hsz : zs.length ≤ 9223372036854775807) (hcap : zs.length ≤ cap) :
    Calls Try.prog 19 #[.slice (some ⟨blk, off, none⟩) zs.length cap] w fun e w' => e = .returned (.slice (some ⟨blk, off, none⟩) (Lib.compact zs).length cap) ∧ ∃ q, w' = putRow encStr (Sort.ahead w q) blk off (Lib.compact zs ++ List.replicate (zs.length - (Lib.compact zs).length) []).toArray := Any.slices_Compact_string Try.lays194 blk off cap zs w hH hsz hcap
open Go.RowKit Go.Sort in
theorem Try.slices_Sort_string_none (p : Option Addr) (cap : Nat) (w : World) :
    Calls Try.prog 32 #[.slice p 0 cap] w fun e w' => e = .returned (.tuple #[]) ∧ w' = w := Any.slices_Sort_string_none Try.lays190 p cap w
end Go.Proofs.Ytnecmpgcjgkheaa
