/-
  Contracts of library functions, laid at this program by the kit's own tools. Conditions: each contract's own.
-/
import Derived.Shelf.Strings.Builder1
import Derived.Shelf.Strings.Builder2
import Derived.Shelf.Strings.OnBuilder
import Derived.Shelf.Small.Bits
import Derived.Shelf.Small.Strs
import Derived.Shelf.Strings.BuilderF
import Derived.Shelf.Strings.BuilderK
import Derived.Shelf.Strings.Builder2Cap
import Derived.Shelf.Strconv.Itoa0
import Derived.Shelf.Strings.Search1
import Derived.Shelf.Strings.Search2
import Derived.Shelf.Strings.Search3
import Derived.Shelf.Strings.Cut
import Derived.Shelf.LaysM
import Derived.Shelf.Strings.Shaped
import Derived.Shelf.Sort.Plain
import Derived.Shelf.Strings.LastIndex
import Derived.Shelf.Strings.Prefix
import Derived.Shelf.Strings.BuilderCap
import Derived.Shelf.Slices.CompactS
import Derived.Shelf.Slices.Cells
import Derived.Shelf.Slices.In.SortNone
import Derived.Test.YtnecmpgcjgkheaaGreatProg
set_option linter.unusedSimpArgs false
set_option linter.unusedVariables false
namespace Go.Proofs.YtnecmpgcjgkheaaGreat
open Go.Shelf
def Tryz.lays156_ren : Go.Shelf.Ren := ⟨fun | 156 => 82 | 165 => 94 | 166 => 95 | 169 => 96 | 240 => 105 | 241 => 106 | 276 => 111 | 277 => 112 | n => n, fun | 31 => 26 | 9 => 9 | 3 => 3 | 4 => 4 | 0 => 0 | 20 => 20 | 72 => 131 | 76 => 135 | 70 => 129 | 37 => 76 | 75 => 134 | 127 => 143 | 164 => 150 | 5 => 5 | 80 => 137 | n => n, fun | n => n⟩
theorem Tryz.lays156 : Go.Proofs.Lays.n156 Tryz.prog Tryz.lays156_ren := {
  mixed := by kernel_rfl
  f156 := Tryz.func82.trans (congrArg some (by kernel_rfl))
  f165 := Tryz.func94.trans (congrArg some (by kernel_rfl))
  f166 := Tryz.func95.trans (congrArg some (by kernel_rfl))
  f169 := Tryz.func96.trans (congrArg some (by kernel_rfl))
  f240 := Tryz.func105.trans (congrArg some (by kernel_rfl))
  f241 := Tryz.func106.trans (congrArg some (by kernel_rfl))
  f276 := Tryz.func111.trans (congrArg some (by kernel_rfl))
  f277 := Tryz.func112.trans (congrArg some (by kernel_rfl))
  t0 := Tryz.underlying0
  a0 := Tryz.isAgg0
  z0 := Tryz.sizeOf0
  v0 := Tryz.zeroValue0
  t3 := Tryz.underlying3
  a3 := Tryz.isAgg3
  z3 := Tryz.sizeOf3
  v3 := Tryz.zeroValue3
  t4 := Tryz.underlying4
  a4 := Tryz.isAgg4
  z4 := Tryz.sizeOf4
  v4 := Tryz.zeroValue4
  t9 := Tryz.underlying9
  a9 := Tryz.isAgg9
  z9 := Tryz.sizeOf9
  v9 := Tryz.zeroValue9
  t20 := Tryz.underlying20
  a20 := Tryz.isAgg20
  z20 := Tryz.sizeOf20
  v20 := Tryz.zeroValue20
  t31 := Tryz.underlying26
  a31 := Tryz.isAgg26
  z31 := Tryz.sizeOf26
  v31 := Tryz.zeroValue26
  t37 := Tryz.underlying76
  a37 := Tryz.isAgg76
  z37 := Tryz.sizeOf76
  v37 := Tryz.zeroValue76
  t70 := Tryz.underlying129
  a70 := Tryz.isAgg129
  z70 := Tryz.sizeOf129
  v70 := Tryz.zeroValue129
  t72 := Tryz.underlying131
  a72 := Tryz.isAgg131
  z72 := Tryz.sizeOf131
  v72 := Tryz.zeroValue131
  t75 := Tryz.underlying134
  a75 := Tryz.isAgg134
  z75 := Tryz.sizeOf134
  v75 := Tryz.zeroValue134
  t76 := Tryz.underlying135
  a76 := Tryz.isAgg135
  z76 := Tryz.sizeOf135
  v76 := Tryz.zeroValue135
  t127 := Tryz.underlying143
  a127 := Tryz.isAgg143
  z127 := Tryz.sizeOf143
  v127 := Tryz.zeroValue143
  t164 := Tryz.underlying150
  a164 := Tryz.isAgg150
  z164 := Tryz.sizeOf150
  v164 := Tryz.zeroValue150 }
theorem Tryz.Builder_Extra_156 : Builder.Extra Tryz.prog Tryz.lays156_ren := {
  sizeBuilder := by kernel_rfl
  liesBuilder := by kernel_rfl
  t5 := Tryz.underlying5
  a5 := Tryz.isAgg5
  z5 := Tryz.sizeOf5
  v5 := Tryz.zeroValue5
  infoByte := by kernel_rfl
  cellsByte := by kernel_rfl
  sizeByte := by kernel_rfl
  neB5 := by decide }
open Go.RowKit in
theorem Tryz.strings_Join_none (a : Option Addr) (c : Nat) (sep : ByteArray) (w : World) :
    Calls Tryz.prog 82 #[.slice a 0 c, .string sep] w fun e w' => e = .returned (.string ⟨#[]⟩) ∧ w' = w := Any.strings_Join_none Tryz.lays156 Tryz.Builder_Extra_156 a c sep w
open Go.RowKit in
theorem Tryz.strings_Join (bk o c : Nat) (xs : List ByteArray) (sep : ByteArray) (w : World) (hcells : ∀ (j : Nat) x, xs[j]? = some x → w.cell? ⟨bk, o + j, none⟩ = some (.string x)) (hbk : bk < w.heap.size) (hN : xs.length ≤ 140737488355328) (hcap : xs.length ≤ c) (hlen : (Lib.join (xs.map (·.data.toList)) sep.data.toList).length ≤ 140737488355328) :
    Calls Tryz.prog 82 #[.slice (some ⟨bk, o, none⟩) xs.length c, .string sep] w fun e w' => e = .returned (.string ⟨(Lib.join (xs.map (·.data.toList)) sep.data.toList).toArray⟩) ∧ Below w.heap.size w w' := Any.strings_Join Tryz.lays156 Tryz.Builder_Extra_156 bk o c xs sep w hcells hbk hN hcap hlen
def Tryz.lays137_ren : Go.Shelf.Ren := ⟨fun | 137 => 65 | 217 => 80 | 266 => 91 | n => n, fun | 9 => 9 | 5 => 5 | 3 => 3 | n => n, fun | n => n⟩
theorem Tryz.lays137 : Go.Proofs.Lays.n137 Tryz.prog Tryz.lays137_ren := {
  mixed := by kernel_rfl
  f137 := Tryz.func65.trans (congrArg some (by kernel_rfl))
  f217 := Tryz.func80.trans (congrArg some (by kernel_rfl))
  f266 := Tryz.func91.trans (congrArg some (by kernel_rfl))
  t3 := Tryz.underlying3
  a3 := Tryz.isAgg3
  z3 := Tryz.sizeOf3
  v3 := Tryz.zeroValue3
  t5 := Tryz.underlying5
  a5 := Tryz.isAgg5
  z5 := Tryz.sizeOf5
  v5 := Tryz.zeroValue5
  t9 := Tryz.underlying9
  a9 := Tryz.isAgg9
  z9 := Tryz.sizeOf9
  v9 := Tryz.zeroValue9 }
open Go.RowKit in
theorem Tryz.strings_IndexByte (s : ByteArray) (c : Int) (w : World) :
    Calls Tryz.prog 65 #[.string s, .int .u8 c] w fun e w' => e = .returned (.int .i64 (Lib.indexByte s.data.toList c.toNat.toUInt8)) ∧ w' = w := Any.strings_IndexByte Tryz.lays137 s c w
def Tryz.lays143_ren : Go.Shelf.Ren := ⟨fun | 143 => 116 | 219 => 90 | 217 => 80 | 225 => 101 | 224 => 102 | 267 => 103 | 266 => 91 | 314 => 109 | n => n, fun | 9 => 9 | 3 => 3 | 4 => 4 | 5 => 5 | 46 => 75 | 146 => 146 | 51 => 101 | n => n, fun | 1 => 0 | n => n⟩
theorem Tryz.lays143 : Go.Proofs.Lays.n143 Tryz.prog Tryz.lays143_ren := {
  mixed := by kernel_rfl
  f143 := Tryz.func116.trans (congrArg some (by kernel_rfl))
  f217 := Tryz.func80.trans (congrArg some (by kernel_rfl))
  f219 := Tryz.func90.trans (congrArg some (by kernel_rfl))
  f224 := Tryz.func102.trans (congrArg some (by kernel_rfl))
  f225 := Tryz.func101.trans (congrArg some (by kernel_rfl))
  f266 := Tryz.func91.trans (congrArg some (by kernel_rfl))
  f267 := Tryz.func103.trans (congrArg some (by kernel_rfl))
  f314 := Tryz.func109.trans (congrArg some (by kernel_rfl))
  t3 := Tryz.underlying3
  a3 := Tryz.isAgg3
  z3 := Tryz.sizeOf3
  v3 := Tryz.zeroValue3
  t4 := Tryz.underlying4
  a4 := Tryz.isAgg4
  z4 := Tryz.sizeOf4
  v4 := Tryz.zeroValue4
  t5 := Tryz.underlying5
  a5 := Tryz.isAgg5
  z5 := Tryz.sizeOf5
  v5 := Tryz.zeroValue5
  t9 := Tryz.underlying9
  a9 := Tryz.isAgg9
  z9 := Tryz.sizeOf9
  v9 := Tryz.zeroValue9
  t46 := Tryz.underlying75
  a46 := Tryz.isAgg75
  z46 := Tryz.sizeOf75
  v46 := Tryz.zeroValue75
  t51 := Tryz.underlying101
  a51 := Tryz.isAgg101
  z51 := Tryz.sizeOf101
  v51 := Tryz.zeroValue101
  t146 := Tryz.underlying146
  a146 := Tryz.isAgg146
  z146 := Tryz.sizeOf146
  v146 := Tryz.zeroValue146
  g1 := by kernel_rfl }
open Go.RowKit Go.Lib in
theorem Tryz.strings_Index (s sub : ByteArray) (m : Int) (w : World) (hs : s.size < 4294967281) (hm : w.cell? ⟨0, 0, none⟩ = some (.int .i64 m)) :
    Calls Tryz.prog 116 #[.string s, .string sub] w fun e w' => e = .returned (.int .i64 (Lib.index s.data.toList sub.data.toList)) ∧ w' = w := Any.strings_Index Tryz.lays143 s sub m w hs hm
def Tryz.lays145_ren : Go.Shelf.Ren := ⟨fun | 145 => 64 | 220 => 79 | 219 => 90 | 217 => 80 | 225 => 101 | 224 => 102 | 267 => 103 | 266 => 91 | 314 => 109 | n => n, fun | 9 => 9 | 4 => 4 | 59 => 103 | 3 => 3 | 5 => 5 | 46 => 75 | 146 => 146 | 51 => 101 | n => n, fun | 1 => 0 | n => n⟩
theorem Tryz.lays145 : Go.Proofs.Lays.n145 Tryz.prog Tryz.lays145_ren := {
  mixed := by kernel_rfl
  f145 := Tryz.func64.trans (congrArg some (by kernel_rfl))
  f217 := Tryz.func80.trans (congrArg some (by kernel_rfl))
  f219 := Tryz.func90.trans (congrArg some (by kernel_rfl))
  f220 := Tryz.func79.trans (congrArg some (by kernel_rfl))
  f224 := Tryz.func102.trans (congrArg some (by kernel_rfl))
  f225 := Tryz.func101.trans (congrArg some (by kernel_rfl))
  f266 := Tryz.func91.trans (congrArg some (by kernel_rfl))
  f267 := Tryz.func103.trans (congrArg some (by kernel_rfl))
  f314 := Tryz.func109.trans (congrArg some (by kernel_rfl))
  t3 := Tryz.underlying3
  a3 := Tryz.isAgg3
  z3 := Tryz.sizeOf3
  v3 := Tryz.zeroValue3
  t4 := Tryz.underlying4
  a4 := Tryz.isAgg4
  z4 := Tryz.sizeOf4
  v4 := Tryz.zeroValue4
  t5 := Tryz.underlying5
  a5 := Tryz.isAgg5
  z5 := Tryz.sizeOf5
  v5 := Tryz.zeroValue5
  t9 := Tryz.underlying9
  a9 := Tryz.isAgg9
  z9 := Tryz.sizeOf9
  v9 := Tryz.zeroValue9
  t46 := Tryz.underlying75
  a46 := Tryz.isAgg75
  z46 := Tryz.sizeOf75
  v46 := Tryz.zeroValue75
  t51 := Tryz.underlying101
  a51 := Tryz.isAgg101
  z51 := Tryz.sizeOf101
  v51 := Tryz.zeroValue101
  t59 := Tryz.underlying103
  a59 := Tryz.isAgg103
  z59 := Tryz.sizeOf103
  v59 := Tryz.zeroValue103
  t146 := Tryz.underlying146
  a146 := Tryz.isAgg146
  z146 := Tryz.sizeOf146
  v146 := Tryz.zeroValue146
  g1 := by kernel_rfl }
open Go.RowKit Go.Lib in
theorem Tryz.strings_Cut (s sep : ByteArray) (m : Int) (w : World) (hs : s.size < 4294967281) (hm : w.cell? ⟨0, 0, none⟩ = some (.int .i64 m)) :
    Calls Tryz.prog 64 #[.string s, .string sep] w fun e w' => e = .returned (.tuple #[.string ⟨(Lib.cut s.data.toList sep.data.toList).1.toArray⟩, .string ⟨(Lib.cut s.data.toList sep.data.toList).2.1.toArray⟩, .bool (Lib.cut s.data.toList sep.data.toList).2.2]) ∧ ∃ n, w' = w.drewN n := Any.strings_Cut Tryz.lays145 s sep m w hs hm
def Tryz.lays149_ren : Go.Shelf.Ren := ⟨fun | 149 => 47 | 222 => 71 | n => n, fun | 9 => 9 | 5 => 5 | 3 => 3 | 4 => 4 | n => n, fun | n => n⟩
theorem Tryz.lays149 : Go.Proofs.Lays.n149 Tryz.prog Tryz.lays149_ren := {
  mixed := by kernel_rfl
  f149 := Tryz.func47.trans (congrArg some (by kernel_rfl))
  f222 := Tryz.func71.trans (congrArg some (by kernel_rfl))
  t3 := Tryz.underlying3
  a3 := Tryz.isAgg3
  z3 := Tryz.sizeOf3
  v3 := Tryz.zeroValue3
  t4 := Tryz.underlying4
  a4 := Tryz.isAgg4
  z4 := Tryz.sizeOf4
  v4 := Tryz.zeroValue4
  t5 := Tryz.underlying5
  a5 := Tryz.isAgg5
  z5 := Tryz.sizeOf5
  v5 := Tryz.zeroValue5
  t9 := Tryz.underlying9
  a9 := Tryz.isAgg9
  z9 := Tryz.sizeOf9
  v9 := Tryz.zeroValue9 }
open Go.RowKit Go.Lib in
theorem Tryz.strings_LastIndexByte (s : ByteArray) (c : Int) (hs : s.size < 4611686018427387904) (w : World) :
    Calls Tryz.prog 47 #[.string s, .int .u8 c] w fun e w' => e = .returned (.int .i64 (Lib.lastIndexByte s c)) ∧ w' = w := Any.strings_LastIndexByte Tryz.lays149 s c hs w
def Tryz.lays99_ren : Go.Shelf.Ren := ⟨fun | 99 => 42 | 206 => 62 | n => n, fun | 9 => 9 | 4 => 4 | 3 => 3 | n => n, fun | n => n⟩
theorem Tryz.lays99 : Go.Proofs.Lays.n99 Tryz.prog Tryz.lays99_ren := {
  mixed := by kernel_rfl
  f99 := Tryz.func42.trans (congrArg some (by kernel_rfl))
  f206 := Tryz.func62.trans (congrArg some (by kernel_rfl))
  t3 := Tryz.underlying3
  a3 := Tryz.isAgg3
  z3 := Tryz.sizeOf3
  v3 := Tryz.zeroValue3
  t4 := Tryz.underlying4
  a4 := Tryz.isAgg4
  z4 := Tryz.sizeOf4
  v4 := Tryz.zeroValue4
  t9 := Tryz.underlying9
  a9 := Tryz.isAgg9
  z9 := Tryz.sizeOf9
  v9 := Tryz.zeroValue9 }
open Go.RowKit Go.Lib in
theorem Tryz.strings_HasPrefix (s p : ByteArray) (w : World) :
    Calls Tryz.prog 42 #[.string s, .string p] w fun e w' => e = .returned (.bool (Lib.hasPrefix s.data.toList p.data.toList)) ∧ w' = w := Any.strings_HasPrefix Tryz.lays99 s p w
end Go.Proofs.YtnecmpgcjgkheaaGreat
