/-
  No cell of these rows narrows 'for every input' (looked for: loops, veiled, ifaces, maps, wideKeys, modest, calm, conditions, laid).
  DERIVED. THE GIVEN ROWS OF THIS SEAT. 7 by the template 'for every input the law returns true; each argument reads behind the call as it read before'; 0 by the template 'total and deterministic' (their statements: YtkllgikmlgponaaTotals.lean).
  GIVEN WITH THE SEED: the statements are not yours to turn. If you find one false, say at which input.
  Laid BY PROGRAM, IN A SANDBOX (cutbox-rows.mjs): the forced cells as the released guide's own fill.sh prints them over the translation ccd56be48a4cfee9… (all of the seat's roots in one cut). By AI agents, Wed Nov 11 2026. No macro, syntax, notation, axiom, sorry.
-/
import Derived.Test.YtkllgikmlgponaaChecked
import GoSem.Claim
import GoSem.ClaimJoined
import GoSem.ClaimMapViews
import Derived.JoinedTies
import Derived.KernelRfl
namespace Go.Proofs.Ytkllgikmlgponaa
/- THE CELL 'sum', in the pinned program and in every row, IS THE sha256 OF THE DUMP (.gsa) THAT YtkllgikmlgponaaProg.lean LOADS. Nothing in Lean hashes anything: it is a label: what it is worth is what the hold of that sum in a sandbox is worth. -/
noncomputable def Try.pinned : Pinned := { name := "ytkllgikmlgponaa", sum := "ccd56be48a4cfee97e24a2e5b893e3c760991d8e5ab1ad1ffcddd660b76faac5", checked := Try.checked }
namespace Rows
def none {H : Type} : Left H := { results := [], args := [] }

/-- 'quillwortlaw19.TablesWith': WHATEVER THE INPUT: true; the input reads as it did. -/
def tablesWithSpec : ChangeSpec := { name := "tablesWith", fn := fun _ => fun
  | [d1, d2, d3] => { results := [.lit (.bool true)], args := [d1, d2, d3] }
  | _ => none }
def tablesWithRow : OpenClaim := { program := "ytkllgikmlgponaa", sum := "ccd56be48a4cfee97e24a2e5b893e3c760991d8e5ab1ad1ffcddd660b76faac5", func := "quillwort/quillwortlaw19.TablesWith", spec := "tablesWith", inPlace := ["internal/bytealg.abigen_runtime_cmpstring", "slices.overlaps[quillwort/api.Entry]"], unfollowed := true, recurses := true, apart := false }
def TablesWithSaid : Prop := tablesWithRow.holds Try.pinned (OpenSpec.ofChange tablesWithSpec)

/-- ITS FALSE NEIGHBOUR: 'it returns false'. Refute it at one input. -/
def tablesWithWrong : ChangeSpec := { name := "tablesWith", fn := fun _ => fun
  | [d1, d2, d3] => { results := [.lit (.bool false)], args := [d1, d2, d3] }
  | _ => none }
def TablesWithWrongFalsely : Prop := tablesWithRow.holds Try.pinned (OpenSpec.ofChange tablesWithWrong)

/-- 'quillwortlaw19.TablesOrder': WHATEVER THE INPUT: true; the input reads as it did. -/
def tablesOrderSpec : ChangeSpec := { name := "tablesOrder", fn := fun _ => fun
  | [d1, d2] => { results := [.lit (.bool true)], args := [d1, d2] }
  | _ => none }
def tablesOrderRow : OpenClaim := { program := "ytkllgikmlgponaa", sum := "ccd56be48a4cfee97e24a2e5b893e3c760991d8e5ab1ad1ffcddd660b76faac5", func := "quillwort/quillwortlaw19.TablesOrder", spec := "tablesOrder", inPlace := ["internal/bytealg.abigen_runtime_cmpstring", "slices.overlaps[quillwort/api.Entry]"], unfollowed := true, recurses := true, apart := false }
def TablesOrderSaid : Prop := tablesOrderRow.holds Try.pinned (OpenSpec.ofChange tablesOrderSpec)

/-- ITS FALSE NEIGHBOUR: 'it returns false'. Refute it at one input. -/
def tablesOrderWrong : ChangeSpec := { name := "tablesOrder", fn := fun _ => fun
  | [d1, d2] => { results := [.lit (.bool false)], args := [d1, d2] }
  | _ => none }
def TablesOrderWrongFalsely : Prop := tablesOrderRow.holds Try.pinned (OpenSpec.ofChange tablesOrderWrong)

/-- 'quillwortlaw19.TablesPlay': WHATEVER THE INPUT: true; the input reads as it did. -/
def tablesPlaySpec : ChangeSpec := { name := "tablesPlay", fn := fun _ => fun
  | [d1, d2] => { results := [.lit (.bool true)], args := [d1, d2] }
  | _ => none }
def tablesPlayRow : OpenClaim := { program := "ytkllgikmlgponaa", sum := "ccd56be48a4cfee97e24a2e5b893e3c760991d8e5ab1ad1ffcddd660b76faac5", func := "quillwort/quillwortlaw19.TablesPlay", spec := "tablesPlay", inPlace := ["internal/bytealg.abigen_runtime_cmpstring", "slices.overlaps[quillwort/api.Entry]"], unfollowed := true, recurses := true, apart := false }
def TablesPlaySaid : Prop := tablesPlayRow.holds Try.pinned (OpenSpec.ofChange tablesPlaySpec)

/-- ITS FALSE NEIGHBOUR: 'it returns false'. Refute it at one input. -/
def tablesPlayWrong : ChangeSpec := { name := "tablesPlay", fn := fun _ => fun
  | [d1, d2] => { results := [.lit (.bool false)], args := [d1, d2] }
  | _ => none }
def TablesPlayWrongFalsely : Prop := tablesPlayRow.holds Try.pinned (OpenSpec.ofChange tablesPlayWrong)

/-- 'quillwortlaw18.FilesPaths': WHATEVER THE INPUT: true; the input reads as it did. -/
def filesPathsSpec : ChangeSpec := { name := "filesPaths", fn := fun _ => fun
  | [d1, d2] => { results := [.lit (.bool true)], args := [d1, d2] }
  | _ => none }
def filesPathsRow : OpenClaim := { program := "ytkllgikmlgponaa", sum := "ccd56be48a4cfee97e24a2e5b893e3c760991d8e5ab1ad1ffcddd660b76faac5", func := "quillwort/quillwortlaw18.FilesPaths", spec := "filesPaths", inPlace := ["internal/bytealg.IndexByteString", "internal/bytealg.IndexString", "internal/abi.NoEscape", "internal/bytealg.MakeNoZero"], unfollowed := true, recurses := true, named := ["internal/bytealg.MaxLen"], apart := false }
def FilesPathsSaid : Prop := filesPathsRow.holds Try.pinned (OpenSpec.ofChange filesPathsSpec)

/-- ITS FALSE NEIGHBOUR: 'it returns false'. Refute it at one input. -/
def filesPathsWrong : ChangeSpec := { name := "filesPaths", fn := fun _ => fun
  | [d1, d2] => { results := [.lit (.bool false)], args := [d1, d2] }
  | _ => none }
def FilesPathsWrongFalsely : Prop := filesPathsRow.holds Try.pinned (OpenSpec.ofChange filesPathsWrong)

/-- 'quillwortlaw18.FilesCleans': WHATEVER THE INPUT: true; the input reads as it did. -/
def filesCleansSpec : ChangeSpec := { name := "filesCleans", fn := fun _ => fun
  | [d1, d2, d3, d4] => { results := [.lit (.bool true)], args := [d1, d2, d3, d4] }
  | _ => none }
def filesCleansRow : OpenClaim := { program := "ytkllgikmlgponaa", sum := "ccd56be48a4cfee97e24a2e5b893e3c760991d8e5ab1ad1ffcddd660b76faac5", func := "quillwort/quillwortlaw18.FilesCleans", spec := "filesCleans", inPlace := ["internal/bytealg.IndexByteString", "internal/bytealg.IndexString", "internal/abi.NoEscape", "internal/bytealg.MakeNoZero"], unfollowed := true, recurses := true, named := ["internal/bytealg.MaxLen"], apart := false }
def FilesCleansSaid : Prop := filesCleansRow.holds Try.pinned (OpenSpec.ofChange filesCleansSpec)

/-- ITS FALSE NEIGHBOUR: 'it returns false'. Refute it at one input. -/
def filesCleansWrong : ChangeSpec := { name := "filesCleans", fn := fun _ => fun
  | [d1, d2, d3, d4] => { results := [.lit (.bool false)], args := [d1, d2, d3, d4] }
  | _ => none }
def FilesCleansWrongFalsely : Prop := filesCleansRow.holds Try.pinned (OpenSpec.ofChange filesCleansWrong)

/-- 'quillwortlaw18.FilesOf': WHATEVER THE INPUT: true; the input reads as it did. -/
def filesOfSpec : ChangeSpec := { name := "filesOf", fn := fun _ => fun
  | [d] => { results := [.lit (.bool true)], args := [d] }
  | _ => none }
def filesOfRow : OpenClaim := { program := "ytkllgikmlgponaa", sum := "ccd56be48a4cfee97e24a2e5b893e3c760991d8e5ab1ad1ffcddd660b76faac5", func := "quillwort/quillwortlaw18.FilesOf", spec := "filesOf", inPlace := ["internal/bytealg.IndexByteString", "internal/bytealg.IndexString", "internal/abi.NoEscape", "internal/bytealg.MakeNoZero", "internal/bytealg.abigen_runtime_cmpstring"], unfollowed := true, recurses := true, named := ["internal/bytealg.MaxLen"], apart := false }
def FilesOfSaid : Prop := filesOfRow.holds Try.pinned (OpenSpec.ofChange filesOfSpec)

/-- ITS FALSE NEIGHBOUR: 'it returns false'. Refute it at one input. -/
def filesOfWrong : ChangeSpec := { name := "filesOf", fn := fun _ => fun
  | [d] => { results := [.lit (.bool false)], args := [d] }
  | _ => none }
def FilesOfWrongFalsely : Prop := filesOfRow.holds Try.pinned (OpenSpec.ofChange filesOfWrong)

/-- 'quillwortlaw18.FilesPlay': WHATEVER THE INPUT: true; the input reads as it did. -/
def filesPlaySpec : ChangeSpec := { name := "filesPlay", fn := fun _ => fun
  | [d] => { results := [.lit (.bool true)], args := [d] }
  | _ => none }
def filesPlayRow : OpenClaim := { program := "ytkllgikmlgponaa", sum := "ccd56be48a4cfee97e24a2e5b893e3c760991d8e5ab1ad1ffcddd660b76faac5", func := "quillwort/quillwortlaw18.FilesPlay", spec := "filesPlay", inPlace := ["internal/bytealg.IndexByteString", "internal/bytealg.IndexString", "internal/abi.NoEscape", "internal/bytealg.MakeNoZero", "internal/bytealg.abigen_runtime_cmpstring"], unfollowed := true, recurses := true, named := ["internal/bytealg.MaxLen"], apart := false }
def FilesPlaySaid : Prop := filesPlayRow.holds Try.pinned (OpenSpec.ofChange filesPlaySpec)

/-- ITS FALSE NEIGHBOUR: 'it returns false'. Refute it at one input. -/
def filesPlayWrong : ChangeSpec := { name := "filesPlay", fn := fun _ => fun
  | [d] => { results := [.lit (.bool false)], args := [d] }
  | _ => none }
def FilesPlayWrongFalsely : Prop := filesPlayRow.holds Try.pinned (OpenSpec.ofChange filesPlayWrong)

/- THE SECOND FORM. 'bulk': how many values and letters a reading holds, each counted each time it is reached (what is shared counts as often as it is met; a slice's spare places count too). A statement '..UptoSaid' is the law's where the arguments, and the package variables that the reading takes, are together of bulk at most 1048576: NARROWER than '..Said'. Prove '..Said' where nothing that the law and all that it calls make is longer than what came in: it says more and counts as full. Else prove '..UptoSaid'. A law counts once. -/
mutual
def uptoBulk {H : Type} : DataW H → Nat
  | .lit (.string bytes) => bytes.length + 1
  | .lit _ => 1
  | .nil => 1
  | .ptr d => uptoBulk d + 1
  | .slice elems spare => uptoBulkAll elems + uptoBulkAll spare + 1
  | .agg parts => uptoBulkAll parts + 1
  | .iface _ d => uptoBulk d + 1
  | .map entries => uptoBulkEntries entries + 1
  | .held _ => 1
def uptoBulkAll {H : Type} : List (DataW H) → Nat
  | [] => 0
  | d :: r => uptoBulk d + uptoBulkAll r
def uptoBulkEntries {H : Type} : List (Lit × DataW H) → Nat
  | [] => 0
  | x :: r => uptoBulkEntry x + uptoBulkEntries r
def uptoBulkEntry {H : Type} : Lit × DataW H → Nat
  | (.string bytes, d) => bytes.length + uptoBulk d + 1
  | (_, d) => uptoBulk d + 1
 end
def uptoSmall : (H : Type) → List (DataW H) → Bool := fun _ ds => decide (uptoBulkAll ds ≤ 1048576)
def OpenSpec.upto (s : _root_.Go.ChangeSpec) : _root_.Go.OpenSpec := { _root_.Go.OpenSpec.ofChange s with cond := some uptoSmall }

/-- 'quillwortlaw19.TablesWith', WHERE WHAT IT READS IS OF BULK AT MOST 1048576: true; the input reads as it did. -/
def tablesWithUptoRow : OpenClaim := { program := "ytkllgikmlgponaa", sum := "ccd56be48a4cfee97e24a2e5b893e3c760991d8e5ab1ad1ffcddd660b76faac5", func := "quillwort/quillwortlaw19.TablesWith", spec := "tablesWith", inPlace := ["internal/bytealg.abigen_runtime_cmpstring", "slices.overlaps[quillwort/api.Entry]"], unfollowed := true, recurses := true, apart := false, narrowed := true }
def TablesWithUptoSaid : Prop := tablesWithUptoRow.holds Try.pinned (OpenSpec.upto tablesWithSpec)

/-- 'quillwortlaw19.TablesOrder', WHERE WHAT IT READS IS OF BULK AT MOST 1048576: true; the input reads as it did. -/
def tablesOrderUptoRow : OpenClaim := { program := "ytkllgikmlgponaa", sum := "ccd56be48a4cfee97e24a2e5b893e3c760991d8e5ab1ad1ffcddd660b76faac5", func := "quillwort/quillwortlaw19.TablesOrder", spec := "tablesOrder", inPlace := ["internal/bytealg.abigen_runtime_cmpstring", "slices.overlaps[quillwort/api.Entry]"], unfollowed := true, recurses := true, apart := false, narrowed := true }
def TablesOrderUptoSaid : Prop := tablesOrderUptoRow.holds Try.pinned (OpenSpec.upto tablesOrderSpec)

/-- 'quillwortlaw19.TablesPlay', WHERE WHAT IT READS IS OF BULK AT MOST 1048576: true; the input reads as it did. -/
def tablesPlayUptoRow : OpenClaim := { program := "ytkllgikmlgponaa", sum := "ccd56be48a4cfee97e24a2e5b893e3c760991d8e5ab1ad1ffcddd660b76faac5", func := "quillwort/quillwortlaw19.TablesPlay", spec := "tablesPlay", inPlace := ["internal/bytealg.abigen_runtime_cmpstring", "slices.overlaps[quillwort/api.Entry]"], unfollowed := true, recurses := true, apart := false, narrowed := true }
def TablesPlayUptoSaid : Prop := tablesPlayUptoRow.holds Try.pinned (OpenSpec.upto tablesPlaySpec)

/-- 'quillwortlaw18.FilesPaths', WHERE WHAT IT READS IS OF BULK AT MOST 1048576: true; the input reads as it did. -/
def filesPathsUptoRow : OpenClaim := { program := "ytkllgikmlgponaa", sum := "ccd56be48a4cfee97e24a2e5b893e3c760991d8e5ab1ad1ffcddd660b76faac5", func := "quillwort/quillwortlaw18.FilesPaths", spec := "filesPaths", inPlace := ["internal/bytealg.IndexByteString", "internal/bytealg.IndexString", "internal/abi.NoEscape", "internal/bytealg.MakeNoZero"], unfollowed := true, recurses := true, named := ["internal/bytealg.MaxLen"], apart := false, narrowed := true }
def FilesPathsUptoSaid : Prop := filesPathsUptoRow.holds Try.pinned (OpenSpec.upto filesPathsSpec)

/-- 'quillwortlaw18.FilesCleans', WHERE WHAT IT READS IS OF BULK AT MOST 1048576: true; the input reads as it did. -/
def filesCleansUptoRow : OpenClaim := { program := "ytkllgikmlgponaa", sum := "ccd56be48a4cfee97e24a2e5b893e3c760991d8e5ab1ad1ffcddd660b76faac5", func := "quillwort/quillwortlaw18.FilesCleans", spec := "filesCleans", inPlace := ["internal/bytealg.IndexByteString", "internal/bytealg.IndexString", "internal/abi.NoEscape", "internal/bytealg.MakeNoZero"], unfollowed := true, recurses := true, named := ["internal/bytealg.MaxLen"], apart := false, narrowed := true }
def FilesCleansUptoSaid : Prop := filesCleansUptoRow.holds Try.pinned (OpenSpec.upto filesCleansSpec)

/-- 'quillwortlaw18.FilesOf', WHERE WHAT IT READS IS OF BULK AT MOST 1048576: true; the input reads as it did. -/
def filesOfUptoRow : OpenClaim := { program := "ytkllgikmlgponaa", sum := "ccd56be48a4cfee97e24a2e5b893e3c760991d8e5ab1ad1ffcddd660b76faac5", func := "quillwort/quillwortlaw18.FilesOf", spec := "filesOf", inPlace := ["internal/bytealg.IndexByteString", "internal/bytealg.IndexString", "internal/abi.NoEscape", "internal/bytealg.MakeNoZero", "internal/bytealg.abigen_runtime_cmpstring"], unfollowed := true, recurses := true, named := ["internal/bytealg.MaxLen"], apart := false, narrowed := true }
def FilesOfUptoSaid : Prop := filesOfUptoRow.holds Try.pinned (OpenSpec.upto filesOfSpec)

/-- 'quillwortlaw18.FilesPlay', WHERE WHAT IT READS IS OF BULK AT MOST 1048576: true; the input reads as it did. -/
def filesPlayUptoRow : OpenClaim := { program := "ytkllgikmlgponaa", sum := "ccd56be48a4cfee97e24a2e5b893e3c760991d8e5ab1ad1ffcddd660b76faac5", func := "quillwort/quillwortlaw18.FilesPlay", spec := "filesPlay", inPlace := ["internal/bytealg.IndexByteString", "internal/bytealg.IndexString", "internal/abi.NoEscape", "internal/bytealg.MakeNoZero", "internal/bytealg.abigen_runtime_cmpstring"], unfollowed := true, recurses := true, named := ["internal/bytealg.MaxLen"], apart := false, narrowed := true }
def FilesPlayUptoSaid : Prop := filesPlayUptoRow.holds Try.pinned (OpenSpec.upto filesPlaySpec)

end Rows
end Go.Proofs.Ytkllgikmlgponaa
