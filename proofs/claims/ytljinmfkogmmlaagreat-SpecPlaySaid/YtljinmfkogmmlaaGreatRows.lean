/-
  No cell of these rows narrows 'for every input' (looked for: loops, veiled, ifaces, maps, wideKeys, modest, calm, conditions, laid).
  DERIVED. THE GIVEN ROWS OF THIS SEAT. 4 by the template 'for every input the law returns true; each argument reads behind the call as it read before'; 0 by the template 'total and deterministic' (their statements: YtljinmfkogmmlaaGreatTotals.lean).
  GIVEN WITH THE SEED: the statements are not yours to turn. If you find one false, say at which input.
  Laid BY PROGRAM, IN A SANDBOX (cutbox-rows.mjs): the forced cells as the released guide's own fill.sh prints them over the translation 4888a1618064c9dd… (all of the seat's roots in one cut). By AI agents, Wed Nov 11 2026. No macro, syntax, notation, axiom, sorry.
-/
import Derived.Test.YtljinmfkogmmlaaGreatChecked
import GoSem.Claim
import GoSem.ClaimJoined
import GoSem.ClaimMapViews
import Derived.JoinedTies
import Derived.KernelRfl
namespace Go.Proofs.YtljinmfkogmmlaaGreat
/- THE CELL 'sum', in the pinned program and in every row, IS THE sha256 OF THE DUMP (.gsa) THAT YtljinmfkogmmlaaGreatProg.lean LOADS. Nothing in Lean hashes anything: it is a label: what it is worth is what the hold of that sum in a sandbox is worth. -/
noncomputable def Tryz.pinned : Pinned := { name := "ytljinmfkogmmlaagreat", sum := "4888a1618064c9dd0e72135b57a2401e7f9c18fdd0882b9610ce6d97b82f5766", checked := Tryz.checked }
namespace Rows
def none {H : Type} : Left H := { results := [], args := [] }

/-- 'quillwortlaw20.SpecReads': WHATEVER THE INPUT: true; the input reads as it did. -/
def specReadsSpec : ChangeSpec := { name := "specReads", fn := fun _ => fun
  | [d] => { results := [.lit (.bool true)], args := [d] }
  | _ => none }
def specReadsRow : OpenClaim := { program := "ytljinmfkogmmlaagreat", sum := "4888a1618064c9dd0e72135b57a2401e7f9c18fdd0882b9610ce6d97b82f5766", func := "quillwort/quillwortlaw20.SpecReads", spec := "specReads", inPlace := ["internal/abi.NoEscape", "slices.overlaps[int]"], unfollowed := true, recurses := true, apart := false }
def SpecReadsSaid : Prop := specReadsRow.holds Tryz.pinned (OpenSpec.ofChange specReadsSpec)

/-- ITS FALSE NEIGHBOUR: 'it returns false'. Refute it at one input. -/
def specReadsWrong : ChangeSpec := { name := "specReads", fn := fun _ => fun
  | [d] => { results := [.lit (.bool false)], args := [d] }
  | _ => none }
def SpecReadsWrongFalsely : Prop := specReadsRow.holds Tryz.pinned (OpenSpec.ofChange specReadsWrong)

/-- 'quillwortlaw20.SpecOwn': WHATEVER THE INPUT: true; the input reads as it did. -/
def specOwnSpec : ChangeSpec := { name := "specOwn", fn := fun _ => fun
  | [d1, d2] => { results := [.lit (.bool true)], args := [d1, d2] }
  | _ => none }
def specOwnRow : OpenClaim := { program := "ytljinmfkogmmlaagreat", sum := "4888a1618064c9dd0e72135b57a2401e7f9c18fdd0882b9610ce6d97b82f5766", func := "quillwort/quillwortlaw20.SpecOwn", spec := "specOwn", inPlace := ["internal/abi.NoEscape", "slices.overlaps[int]", "internal/bytealg.abigen_runtime_cmpstring", "slices.overlaps[quillwort/api.Named]"], unfollowed := true, recurses := true, apart := false }
def SpecOwnSaid : Prop := specOwnRow.holds Tryz.pinned (OpenSpec.ofChange specOwnSpec)

/-- ITS FALSE NEIGHBOUR: 'it returns false'. Refute it at one input. -/
def specOwnWrong : ChangeSpec := { name := "specOwn", fn := fun _ => fun
  | [d1, d2] => { results := [.lit (.bool false)], args := [d1, d2] }
  | _ => none }
def SpecOwnWrongFalsely : Prop := specOwnRow.holds Tryz.pinned (OpenSpec.ofChange specOwnWrong)

/-- 'quillwortlaw20.SpecOf': WHATEVER THE INPUT: true; the input reads as it did. -/
def specOfSpec : ChangeSpec := { name := "specOf", fn := fun _ => fun
  | [d1, d2] => { results := [.lit (.bool true)], args := [d1, d2] }
  | _ => none }
def specOfRow : OpenClaim := { program := "ytljinmfkogmmlaagreat", sum := "4888a1618064c9dd0e72135b57a2401e7f9c18fdd0882b9610ce6d97b82f5766", func := "quillwort/quillwortlaw20.SpecOf", spec := "specOf", inPlace := ["internal/abi.NoEscape", "slices.overlaps[int]", "internal/bytealg.abigen_runtime_cmpstring", "slices.overlaps[quillwort/api.Named]"], unfollowed := true, recurses := true, apart := false }
def SpecOfSaid : Prop := specOfRow.holds Tryz.pinned (OpenSpec.ofChange specOfSpec)

/-- ITS FALSE NEIGHBOUR: 'it returns false'. Refute it at one input. -/
def specOfWrong : ChangeSpec := { name := "specOf", fn := fun _ => fun
  | [d1, d2] => { results := [.lit (.bool false)], args := [d1, d2] }
  | _ => none }
def SpecOfWrongFalsely : Prop := specOfRow.holds Tryz.pinned (OpenSpec.ofChange specOfWrong)

/-- 'quillwortlaw20.SpecPlay': WHATEVER THE INPUT: true; the input reads as it did. -/
def specPlaySpec : ChangeSpec := { name := "specPlay", fn := fun _ => fun
  | [d1, d2] => { results := [.lit (.bool true)], args := [d1, d2] }
  | _ => none }
def specPlayRow : OpenClaim := { program := "ytljinmfkogmmlaagreat", sum := "4888a1618064c9dd0e72135b57a2401e7f9c18fdd0882b9610ce6d97b82f5766", func := "quillwort/quillwortlaw20.SpecPlay", spec := "specPlay", inPlace := ["internal/abi.NoEscape", "slices.overlaps[int]", "internal/bytealg.abigen_runtime_cmpstring", "slices.overlaps[quillwort/api.Named]"], unfollowed := true, recurses := true, apart := false }
def SpecPlaySaid : Prop := specPlayRow.holds Tryz.pinned (OpenSpec.ofChange specPlaySpec)

/-- ITS FALSE NEIGHBOUR: 'it returns false'. Refute it at one input. -/
def specPlayWrong : ChangeSpec := { name := "specPlay", fn := fun _ => fun
  | [d1, d2] => { results := [.lit (.bool false)], args := [d1, d2] }
  | _ => none }
def SpecPlayWrongFalsely : Prop := specPlayRow.holds Tryz.pinned (OpenSpec.ofChange specPlayWrong)

/- THE SECOND FORM. 'bulk': how many values and letters a reading holds, each counted each time it is reached (what is shared counts as often as it is met; a slice's spare places count too). A statement '..UptoSaid' is the law's where the arguments, and the package variables that the reading takes, are together of bulk at most 1048576: NARROWER than '..Said'. Prove '..Said' where nothing that the law and all that it calls make is longer than what came in: it says more and counts as full. Else prove '..UptoSaid'. A law counts once. -/
mutual
def uptoBulk {H : Type} : DataW H → Nat
  | .lit (.string bytes) => bytes.length + 1
  | .lit _ => 1
  | .nil => 1
  | .ptr d => uptoBulk d + 1
  | .slice elems spare => uptoBulkAll elems + uptoBulkAll spare + 1
  | .agg parts => uptoBulkAll parts + 1
  | .iface _ d => uptoBulk d + 1
  | .map entries => uptoBulkEntries entries + 1
  | .held _ => 1
def uptoBulkAll {H : Type} : List (DataW H) → Nat
  | [] => 0
  | d :: r => uptoBulk d + uptoBulkAll r
def uptoBulkEntries {H : Type} : List (Lit × DataW H) → Nat
  | [] => 0
  | x :: r => uptoBulkEntry x + uptoBulkEntries r
def uptoBulkEntry {H : Type} : Lit × DataW H → Nat
  | (.string bytes, d) => bytes.length + uptoBulk d + 1
  | (_, d) => uptoBulk d + 1
 end
def uptoSmall : (H : Type) → List (DataW H) → Bool := fun _ ds => decide (uptoBulkAll ds ≤ 1048576)
def OpenSpec.upto (s : _root_.Go.ChangeSpec) : _root_.Go.OpenSpec := { _root_.Go.OpenSpec.ofChange s with cond := some uptoSmall }

/-- 'quillwortlaw20.SpecReads', WHERE WHAT IT READS IS OF BULK AT MOST 1048576: true; the input reads as it did. -/
def specReadsUptoRow : OpenClaim := { program := "ytljinmfkogmmlaagreat", sum := "4888a1618064c9dd0e72135b57a2401e7f9c18fdd0882b9610ce6d97b82f5766", func := "quillwort/quillwortlaw20.SpecReads", spec := "specReads", inPlace := ["internal/abi.NoEscape", "slices.overlaps[int]"], unfollowed := true, recurses := true, apart := false, narrowed := true }
def SpecReadsUptoSaid : Prop := specReadsUptoRow.holds Tryz.pinned (OpenSpec.upto specReadsSpec)

/-- 'quillwortlaw20.SpecOwn', WHERE WHAT IT READS IS OF BULK AT MOST 1048576: true; the input reads as it did. -/
def specOwnUptoRow : OpenClaim := { program := "ytljinmfkogmmlaagreat", sum := "4888a1618064c9dd0e72135b57a2401e7f9c18fdd0882b9610ce6d97b82f5766", func := "quillwort/quillwortlaw20.SpecOwn", spec := "specOwn", inPlace := ["internal/abi.NoEscape", "slices.overlaps[int]", "internal/bytealg.abigen_runtime_cmpstring", "slices.overlaps[quillwort/api.Named]"], unfollowed := true, recurses := true, apart := false, narrowed := true }
def SpecOwnUptoSaid : Prop := specOwnUptoRow.holds Tryz.pinned (OpenSpec.upto specOwnSpec)

/-- 'quillwortlaw20.SpecOf', WHERE WHAT IT READS IS OF BULK AT MOST 1048576: true; the input reads as it did. -/
def specOfUptoRow : OpenClaim := { program := "ytljinmfkogmmlaagreat", sum := "4888a1618064c9dd0e72135b57a2401e7f9c18fdd0882b9610ce6d97b82f5766", func := "quillwort/quillwortlaw20.SpecOf", spec := "specOf", inPlace := ["internal/abi.NoEscape", "slices.overlaps[int]", "internal/bytealg.abigen_runtime_cmpstring", "slices.overlaps[quillwort/api.Named]"], unfollowed := true, recurses := true, apart := false, narrowed := true }
def SpecOfUptoSaid : Prop := specOfUptoRow.holds Tryz.pinned (OpenSpec.upto specOfSpec)

/-- 'quillwortlaw20.SpecPlay', WHERE WHAT IT READS IS OF BULK AT MOST 1048576: true; the input reads as it did. -/
def specPlayUptoRow : OpenClaim := { program := "ytljinmfkogmmlaagreat", sum := "4888a1618064c9dd0e72135b57a2401e7f9c18fdd0882b9610ce6d97b82f5766", func := "quillwort/quillwortlaw20.SpecPlay", spec := "specPlay", inPlace := ["internal/abi.NoEscape", "slices.overlaps[int]", "internal/bytealg.abigen_runtime_cmpstring", "slices.overlaps[quillwort/api.Named]"], unfollowed := true, recurses := true, apart := false, narrowed := true }
def SpecPlayUptoSaid : Prop := specPlayUptoRow.holds Tryz.pinned (OpenSpec.upto specPlaySpec)

end Rows
end Go.Proofs.YtljinmfkogmmlaaGreat
