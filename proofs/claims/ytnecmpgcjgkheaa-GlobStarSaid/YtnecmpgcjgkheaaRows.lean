/-
  No cell of these rows narrows 'for every input' (looked for: loops, veiled, ifaces, maps, wideKeys, modest, calm, conditions, laid).
  DERIVED. THE GIVEN ROWS OF THIS SEAT. 3 by the template 'for every input the law returns true; each argument reads behind the call as it read before'; 0 by the template 'total and deterministic' (their statements: YtnecmpgcjgkheaaTotals.lean).
  GIVEN WITH THE SEED: the statements are not yours to turn. If you find one false, say at which input.
  Laid BY PROGRAM, IN A SANDBOX (cutbox-rows.mjs): the forced cells as the released guide's own fill.sh prints them over the translation 75f61c8b5b67d9fc… (all of the seat's roots in one cut). By AI agents, Wed Nov 11 2026. No macro, syntax, notation, axiom, sorry.
-/
import Derived.Test.YtnecmpgcjgkheaaChecked
import GoSem.Claim
import GoSem.ClaimJoined
import GoSem.ClaimMapViews
import Derived.JoinedTies
import Derived.KernelRfl
namespace Go.Proofs.Ytnecmpgcjgkheaa
/- THE CELL 'sum', in the pinned program and in every row, IS THE sha256 OF THE DUMP (.gsa) THAT YtnecmpgcjgkheaaProg.lean LOADS. Nothing in Lean hashes anything: it is a label: what it is worth is what the hold of that sum in a sandbox is worth. -/
noncomputable def Try.pinned : Pinned := { name := "ytnecmpgcjgkheaa", sum := "75f61c8b5b67d9fc8020f59ae9efed82690bf96d719ad48a4815a2f976deff8b", checked := Try.checked }
namespace Rows
def none {H : Type} : Left H := { results := [], args := [] }

/-- 'quillwortlaw27.GlobParts': WHATEVER THE INPUT: true; the input reads as it did. -/
def globPartsSpec : ChangeSpec := { name := "globParts", fn := fun _ => fun
  | [d] => { results := [.lit (.bool true)], args := [d] }
  | _ => none }
def globPartsRow : OpenClaim := { program := "ytnecmpgcjgkheaa", sum := "75f61c8b5b67d9fc8020f59ae9efed82690bf96d719ad48a4815a2f976deff8b", func := "quillwort/quillwortlaw27.GlobParts", spec := "globParts", inPlace := ["internal/bytealg.IndexByteString", "internal/bytealg.IndexString", "internal/abi.NoEscape", "internal/bytealg.MakeNoZero"], unfollowed := true, recurses := true, named := ["internal/bytealg.MaxLen"], apart := false }
def GlobPartsSaid : Prop := globPartsRow.holds Try.pinned (OpenSpec.ofChange globPartsSpec)

/-- ITS FALSE NEIGHBOUR: 'it returns false'. Refute it at one input. -/
def globPartsWrong : ChangeSpec := { name := "globParts", fn := fun _ => fun
  | [d] => { results := [.lit (.bool false)], args := [d] }
  | _ => none }
def GlobPartsWrongFalsely : Prop := globPartsRow.holds Try.pinned (OpenSpec.ofChange globPartsWrong)

/-- 'quillwortlaw27.GlobReal': WHATEVER THE INPUT: true; the input reads as it did. -/
def globRealSpec : ChangeSpec := { name := "globReal", fn := fun _ => fun
  | [d1, d2, d3] => { results := [.lit (.bool true)], args := [d1, d2, d3] }
  | _ => none }
def globRealRow : OpenClaim := { program := "ytnecmpgcjgkheaa", sum := "75f61c8b5b67d9fc8020f59ae9efed82690bf96d719ad48a4815a2f976deff8b", func := "quillwort/quillwortlaw27.GlobReal", spec := "globReal", inPlace := ["internal/bytealg.IndexByteString", "internal/bytealg.IndexString", "internal/abi.NoEscape", "internal/bytealg.MakeNoZero"], unfollowed := true, recurses := true, named := ["internal/bytealg.MaxLen"], apart := false }
def GlobRealSaid : Prop := globRealRow.holds Try.pinned (OpenSpec.ofChange globRealSpec)

/-- ITS FALSE NEIGHBOUR: 'it returns false'. Refute it at one input. -/
def globRealWrong : ChangeSpec := { name := "globReal", fn := fun _ => fun
  | [d1, d2, d3] => { results := [.lit (.bool false)], args := [d1, d2, d3] }
  | _ => none }
def GlobRealWrongFalsely : Prop := globRealRow.holds Try.pinned (OpenSpec.ofChange globRealWrong)

/-- 'quillwortlaw27.GlobStar': WHATEVER THE INPUT: true; the input reads as it did. -/
def globStarSpec : ChangeSpec := { name := "globStar", fn := fun _ => fun
  | [d1, d2] => { results := [.lit (.bool true)], args := [d1, d2] }
  | _ => none }
def globStarRow : OpenClaim := { program := "ytnecmpgcjgkheaa", sum := "75f61c8b5b67d9fc8020f59ae9efed82690bf96d719ad48a4815a2f976deff8b", func := "quillwort/quillwortlaw27.GlobStar", spec := "globStar", inPlace := ["internal/bytealg.IndexByteString", "internal/bytealg.IndexString", "internal/abi.NoEscape", "internal/bytealg.MakeNoZero"], unfollowed := true, recurses := true, named := ["internal/bytealg.MaxLen"], apart := false }
def GlobStarSaid : Prop := globStarRow.holds Try.pinned (OpenSpec.ofChange globStarSpec)

/-- ITS FALSE NEIGHBOUR: 'it returns false'. Refute it at one input. -/
def globStarWrong : ChangeSpec := { name := "globStar", fn := fun _ => fun
  | [d1, d2] => { results := [.lit (.bool false)], args := [d1, d2] }
  | _ => none }
def GlobStarWrongFalsely : Prop := globStarRow.holds Try.pinned (OpenSpec.ofChange globStarWrong)

/- THE SECOND FORM. 'bulk': how many values and letters a reading holds, each counted each time it is reached (what is shared counts as often as it is met; a slice's spare places count too). A statement '..UptoSaid' is the law's where the arguments, and the package variables that the reading takes, are together of bulk at most 1048576: NARROWER than '..Said'. Prove '..Said' where nothing that the law and all that it calls make is longer than what came in: it says more and counts as full. Else prove '..UptoSaid'. A law counts once. -/
mutual
def uptoBulk {H : Type} : DataW H → Nat
  | .lit (.string bytes) => bytes.length + 1
  | .lit _ => 1
  | .nil => 1
  | .ptr d => uptoBulk d + 1
  | .slice elems spare => uptoBulkAll elems + uptoBulkAll spare + 1
  | .agg parts => uptoBulkAll parts + 1
  | .iface _ d => uptoBulk d + 1
  | .map entries => uptoBulkEntries entries + 1
  | .held _ => 1
def uptoBulkAll {H : Type} : List (DataW H) → Nat
  | [] => 0
  | d :: r => uptoBulk d + uptoBulkAll r
def uptoBulkEntries {H : Type} : List (Lit × DataW H) → Nat
  | [] => 0
  | x :: r => uptoBulkEntry x + uptoBulkEntries r
def uptoBulkEntry {H : Type} : Lit × DataW H → Nat
  | (.string bytes, d) => bytes.length + uptoBulk d + 1
  | (_, d) => uptoBulk d + 1
 end
def uptoSmall : (H : Type) → List (DataW H) → Bool := fun _ ds => decide (uptoBulkAll ds ≤ 1048576)
def OpenSpec.upto (s : _root_.Go.ChangeSpec) : _root_.Go.OpenSpec := { _root_.Go.OpenSpec.ofChange s with cond := some uptoSmall }

/-- 'quillwortlaw27.GlobParts', WHERE WHAT IT READS IS OF BULK AT MOST 1048576: true; the input reads as it did. -/
def globPartsUptoRow : OpenClaim := { program := "ytnecmpgcjgkheaa", sum := "75f61c8b5b67d9fc8020f59ae9efed82690bf96d719ad48a4815a2f976deff8b", func := "quillwort/quillwortlaw27.GlobParts", spec := "globParts", inPlace := ["internal/bytealg.IndexByteString", "internal/bytealg.IndexString", "internal/abi.NoEscape", "internal/bytealg.MakeNoZero"], unfollowed := true, recurses := true, named := ["internal/bytealg.MaxLen"], apart := false, narrowed := true }
def GlobPartsUptoSaid : Prop := globPartsUptoRow.holds Try.pinned (OpenSpec.upto globPartsSpec)

/-- 'quillwortlaw27.GlobReal', WHERE WHAT IT READS IS OF BULK AT MOST 1048576: true; the input reads as it did. -/
def globRealUptoRow : OpenClaim := { program := "ytnecmpgcjgkheaa", sum := "75f61c8b5b67d9fc8020f59ae9efed82690bf96d719ad48a4815a2f976deff8b", func := "quillwort/quillwortlaw27.GlobReal", spec := "globReal", inPlace := ["internal/bytealg.IndexByteString", "internal/bytealg.IndexString", "internal/abi.NoEscape", "internal/bytealg.MakeNoZero"], unfollowed := true, recurses := true, named := ["internal/bytealg.MaxLen"], apart := false, narrowed := true }
def GlobRealUptoSaid : Prop := globRealUptoRow.holds Try.pinned (OpenSpec.upto globRealSpec)

/-- 'quillwortlaw27.GlobStar', WHERE WHAT IT READS IS OF BULK AT MOST 1048576: true; the input reads as it did. -/
def globStarUptoRow : OpenClaim := { program := "ytnecmpgcjgkheaa", sum := "75f61c8b5b67d9fc8020f59ae9efed82690bf96d719ad48a4815a2f976deff8b", func := "quillwort/quillwortlaw27.GlobStar", spec := "globStar", inPlace := ["internal/bytealg.IndexByteString", "internal/bytealg.IndexString", "internal/abi.NoEscape", "internal/bytealg.MakeNoZero"], unfollowed := true, recurses := true, named := ["internal/bytealg.MaxLen"], apart := false, narrowed := true }
def GlobStarUptoSaid : Prop := globStarUptoRow.holds Try.pinned (OpenSpec.upto globStarSpec)

end Rows
end Go.Proofs.Ytnecmpgcjgkheaa
