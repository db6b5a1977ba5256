/-
  No cell of these rows narrows 'for every input' (looked for: loops, veiled, ifaces, maps, wideKeys, modest, calm, conditions, laid).
  DERIVED. THE GIVEN ROWS OF THIS SEAT. 13 by the template 'for every input the law returns true; each argument reads behind the call as it read before'; 0 by the template 'total and deterministic' (their statements: YtkinjjgaecbogaaTotals.lean).
  GIVEN WITH THE SEED: the statements are not yours to turn. If you find one false, say at which input.
  Laid BY PROGRAM, IN A SANDBOX (cutbox-rows.mjs): the forced cells as the released guide's own fill.sh prints them over the translation 95120d36e27f9da8… (all of the seat's roots in one cut). By AI agents, Wed Nov 11 2026. No macro, syntax, notation, axiom, sorry.
-/
import Derived.Test.YtkinjjgaecbogaaChecked
import GoSem.Claim
import GoSem.ClaimJoined
import GoSem.ClaimMapViews
import Derived.JoinedTies
import Derived.KernelRfl
namespace Go.Proofs.Ytkinjjgaecbogaa
/- THE CELL 'sum', in the pinned program and in every row, IS THE sha256 OF THE DUMP (.gsa) THAT YtkinjjgaecbogaaProg.lean LOADS. Nothing in Lean hashes anything: it is a label: what it is worth is what the hold of that sum in a sandbox is worth. -/
noncomputable def Try.pinned : Pinned := { name := "ytkinjjgaecbogaa", sum := "95120d36e27f9da855d5aaed78a49753c683f21f6fe5e0e97bb41e28b1fa63a2", checked := Try.checked }
namespace Rows
def none {H : Type} : Left H := { results := [], args := [] }

/-- 'quillwortlaw30.HistAdds': WHATEVER THE INPUT: true; the input reads as it did. -/
def histAddsSpec : ChangeSpec := { name := "histAdds", fn := fun _ => fun
  | [d1, d2] => { results := [.lit (.bool true)], args := [d1, d2] }
  | _ => none }
def histAddsRow : OpenClaim := { program := "ytkinjjgaecbogaa", sum := "95120d36e27f9da855d5aaed78a49753c683f21f6fe5e0e97bb41e28b1fa63a2", func := "quillwort/quillwortlaw30.HistAdds", spec := "histAdds", apart := false }
def HistAddsSaid : Prop := histAddsRow.holds Try.pinned (OpenSpec.ofChange histAddsSpec)

/-- ITS FALSE NEIGHBOUR: 'it returns false'. Refute it at one input. -/
def histAddsWrong : ChangeSpec := { name := "histAdds", fn := fun _ => fun
  | [d1, d2] => { results := [.lit (.bool false)], args := [d1, d2] }
  | _ => none }
def HistAddsWrongFalsely : Prop := histAddsRow.holds Try.pinned (OpenSpec.ofChange histAddsWrong)

/-- 'quillwortlaw30.HistWalks': WHATEVER THE INPUT: true; the input reads as it did. -/
def histWalksSpec : ChangeSpec := { name := "histWalks", fn := fun _ => fun
  | [d1, d2, d3] => { results := [.lit (.bool true)], args := [d1, d2, d3] }
  | _ => none }
def histWalksRow : OpenClaim := { program := "ytkinjjgaecbogaa", sum := "95120d36e27f9da855d5aaed78a49753c683f21f6fe5e0e97bb41e28b1fa63a2", func := "quillwort/quillwortlaw30.HistWalks", spec := "histWalks", apart := false }
def HistWalksSaid : Prop := histWalksRow.holds Try.pinned (OpenSpec.ofChange histWalksSpec)

/-- ITS FALSE NEIGHBOUR: 'it returns false'. Refute it at one input. -/
def histWalksWrong : ChangeSpec := { name := "histWalks", fn := fun _ => fun
  | [d1, d2, d3] => { results := [.lit (.bool false)], args := [d1, d2, d3] }
  | _ => none }
def HistWalksWrongFalsely : Prop := histWalksRow.holds Try.pinned (OpenSpec.ofChange histWalksWrong)

/-- 'quillwortlaw30.HistThere': WHATEVER THE INPUT: true; the input reads as it did. -/
def histThereSpec : ChangeSpec := { name := "histThere", fn := fun _ => fun
  | [d1, d2] => { results := [.lit (.bool true)], args := [d1, d2] }
  | _ => none }
def histThereRow : OpenClaim := { program := "ytkinjjgaecbogaa", sum := "95120d36e27f9da855d5aaed78a49753c683f21f6fe5e0e97bb41e28b1fa63a2", func := "quillwort/quillwortlaw30.HistThere", spec := "histThere", apart := false }
def HistThereSaid : Prop := histThereRow.holds Try.pinned (OpenSpec.ofChange histThereSpec)

/-- ITS FALSE NEIGHBOUR: 'it returns false'. Refute it at one input. -/
def histThereWrong : ChangeSpec := { name := "histThere", fn := fun _ => fun
  | [d1, d2] => { results := [.lit (.bool false)], args := [d1, d2] }
  | _ => none }
def HistThereWrongFalsely : Prop := histThereRow.holds Try.pinned (OpenSpec.ofChange histThereWrong)

/-- 'quillwortlaw26.FieldsSplit': WHATEVER THE INPUT: true; the input reads as it did. -/
def fieldsSplitSpec : ChangeSpec := { name := "fieldsSplit", fn := fun _ => fun
  | [d1, d2] => { results := [.lit (.bool true)], args := [d1, d2] }
  | _ => none }
def fieldsSplitRow : OpenClaim := { program := "ytkinjjgaecbogaa", sum := "95120d36e27f9da855d5aaed78a49753c683f21f6fe5e0e97bb41e28b1fa63a2", func := "quillwort/quillwortlaw26.FieldsSplit", spec := "fieldsSplit", inPlace := ["internal/bytealg.IndexByteString"], unfollowed := true, recurses := true, apart := false }
def FieldsSplitSaid : Prop := fieldsSplitRow.holds Try.pinned (OpenSpec.ofChange fieldsSplitSpec)

/-- ITS FALSE NEIGHBOUR: 'it returns false'. Refute it at one input. -/
def fieldsSplitWrong : ChangeSpec := { name := "fieldsSplit", fn := fun _ => fun
  | [d1, d2] => { results := [.lit (.bool false)], args := [d1, d2] }
  | _ => none }
def FieldsSplitWrongFalsely : Prop := fieldsSplitRow.holds Try.pinned (OpenSpec.ofChange fieldsSplitWrong)

/-- 'quillwortlaw26.FieldsWhole': WHATEVER THE INPUT: true; the input reads as it did. -/
def fieldsWholeSpec : ChangeSpec := { name := "fieldsWhole", fn := fun _ => fun
  | [d1, d2] => { results := [.lit (.bool true)], args := [d1, d2] }
  | _ => none }
def fieldsWholeRow : OpenClaim := { program := "ytkinjjgaecbogaa", sum := "95120d36e27f9da855d5aaed78a49753c683f21f6fe5e0e97bb41e28b1fa63a2", func := "quillwort/quillwortlaw26.FieldsWhole", spec := "fieldsWhole", inPlace := ["internal/bytealg.IndexByteString"], unfollowed := true, recurses := true, apart := false }
def FieldsWholeSaid : Prop := fieldsWholeRow.holds Try.pinned (OpenSpec.ofChange fieldsWholeSpec)

/-- ITS FALSE NEIGHBOUR: 'it returns false'. Refute it at one input. -/
def fieldsWholeWrong : ChangeSpec := { name := "fieldsWhole", fn := fun _ => fun
  | [d1, d2] => { results := [.lit (.bool false)], args := [d1, d2] }
  | _ => none }
def FieldsWholeWrongFalsely : Prop := fieldsWholeRow.holds Try.pinned (OpenSpec.ofChange fieldsWholeWrong)

/-- 'quillwortlaw26.FieldsBetween': WHATEVER THE INPUT: true; the input reads as it did. -/
def fieldsBetweenSpec : ChangeSpec := { name := "fieldsBetween", fn := fun _ => fun
  | [d] => { results := [.lit (.bool true)], args := [d] }
  | _ => none }
def fieldsBetweenRow : OpenClaim := { program := "ytkinjjgaecbogaa", sum := "95120d36e27f9da855d5aaed78a49753c683f21f6fe5e0e97bb41e28b1fa63a2", func := "quillwort/quillwortlaw26.FieldsBetween", spec := "fieldsBetween", inPlace := ["internal/bytealg.IndexByteString"], unfollowed := true, recurses := true, apart := false }
def FieldsBetweenSaid : Prop := fieldsBetweenRow.holds Try.pinned (OpenSpec.ofChange fieldsBetweenSpec)

/-- ITS FALSE NEIGHBOUR: 'it returns false'. Refute it at one input. -/
def fieldsBetweenWrong : ChangeSpec := { name := "fieldsBetween", fn := fun _ => fun
  | [d] => { results := [.lit (.bool false)], args := [d] }
  | _ => none }
def FieldsBetweenWrongFalsely : Prop := fieldsBetweenRow.holds Try.pinned (OpenSpec.ofChange fieldsBetweenWrong)

/-- 'quillwortlaw26.FieldsJoin': WHATEVER THE INPUT: true; the input reads as it did. -/
def fieldsJoinSpec : ChangeSpec := { name := "fieldsJoin", fn := fun _ => fun
  | [d1, d2] => { results := [.lit (.bool true)], args := [d1, d2] }
  | _ => none }
def fieldsJoinRow : OpenClaim := { program := "ytkinjjgaecbogaa", sum := "95120d36e27f9da855d5aaed78a49753c683f21f6fe5e0e97bb41e28b1fa63a2", func := "quillwort/quillwortlaw26.FieldsJoin", spec := "fieldsJoin", inPlace := ["internal/bytealg.IndexByteString", "internal/abi.NoEscape", "internal/bytealg.MakeNoZero"], unfollowed := true, recurses := true, apart := false }
def FieldsJoinSaid : Prop := fieldsJoinRow.holds Try.pinned (OpenSpec.ofChange fieldsJoinSpec)

/-- ITS FALSE NEIGHBOUR: 'it returns false'. Refute it at one input. -/
def fieldsJoinWrong : ChangeSpec := { name := "fieldsJoin", fn := fun _ => fun
  | [d1, d2] => { results := [.lit (.bool false)], args := [d1, d2] }
  | _ => none }
def FieldsJoinWrongFalsely : Prop := fieldsJoinRow.holds Try.pinned (OpenSpec.ofChange fieldsJoinWrong)

/-- 'quillwortlaw03.LinesNear': WHATEVER THE INPUT: true; the input reads as it did. -/
def linesNearSpec : ChangeSpec := { name := "linesNear", fn := fun _ => fun
  | [d1, d2, d3] => { results := [.lit (.bool true)], args := [d1, d2, d3] }
  | _ => none }
def linesNearRow : OpenClaim := { program := "ytkinjjgaecbogaa", sum := "95120d36e27f9da855d5aaed78a49753c683f21f6fe5e0e97bb41e28b1fa63a2", func := "quillwort/quillwortlaw03.LinesNear", spec := "linesNear", unfollowed := true, recurses := true, apart := false }
def LinesNearSaid : Prop := linesNearRow.holds Try.pinned (OpenSpec.ofChange linesNearSpec)

/-- ITS FALSE NEIGHBOUR: 'it returns false'. Refute it at one input. -/
def linesNearWrong : ChangeSpec := { name := "linesNear", fn := fun _ => fun
  | [d1, d2, d3] => { results := [.lit (.bool false)], args := [d1, d2, d3] }
  | _ => none }
def LinesNearWrongFalsely : Prop := linesNearRow.holds Try.pinned (OpenSpec.ofChange linesNearWrong)

/-- 'quillwortlaw03.LinesTell': WHATEVER THE INPUT: true; the input reads as it did. -/
def linesTellSpec : ChangeSpec := { name := "linesTell", fn := fun _ => fun
  | [d1, d2, d3, d4] => { results := [.lit (.bool true)], args := [d1, d2, d3, d4] }
  | _ => none }
def linesTellRow : OpenClaim := { program := "ytkinjjgaecbogaa", sum := "95120d36e27f9da855d5aaed78a49753c683f21f6fe5e0e97bb41e28b1fa63a2", func := "quillwort/quillwortlaw03.LinesTell", spec := "linesTell", unfollowed := true, recurses := true, apart := false }
def LinesTellSaid : Prop := linesTellRow.holds Try.pinned (OpenSpec.ofChange linesTellSpec)

/-- ITS FALSE NEIGHBOUR: 'it returns false'. Refute it at one input. -/
def linesTellWrong : ChangeSpec := { name := "linesTell", fn := fun _ => fun
  | [d1, d2, d3, d4] => { results := [.lit (.bool false)], args := [d1, d2, d3, d4] }
  | _ => none }
def LinesTellWrongFalsely : Prop := linesTellRow.holds Try.pinned (OpenSpec.ofChange linesTellWrong)

/-- 'quillwortlaw03.LinesFollow': WHATEVER THE INPUT: true; the input reads as it did. -/
def linesFollowSpec : ChangeSpec := { name := "linesFollow", fn := fun _ => fun
  | [d1, d2] => { results := [.lit (.bool true)], args := [d1, d2] }
  | _ => none }
def linesFollowRow : OpenClaim := { program := "ytkinjjgaecbogaa", sum := "95120d36e27f9da855d5aaed78a49753c683f21f6fe5e0e97bb41e28b1fa63a2", func := "quillwort/quillwortlaw03.LinesFollow", spec := "linesFollow", inPlace := ["internal/bytealg.CountString", "internal/bytealg.IndexByteString", "internal/bytealg.IndexString"], unfollowed := true, recurses := true, named := ["internal/bytealg.MaxLen"], apart := false }
def LinesFollowSaid : Prop := linesFollowRow.holds Try.pinned (OpenSpec.ofChange linesFollowSpec)

/-- ITS FALSE NEIGHBOUR: 'it returns false'. Refute it at one input. -/
def linesFollowWrong : ChangeSpec := { name := "linesFollow", fn := fun _ => fun
  | [d1, d2] => { results := [.lit (.bool false)], args := [d1, d2] }
  | _ => none }
def LinesFollowWrongFalsely : Prop := linesFollowRow.holds Try.pinned (OpenSpec.ofChange linesFollowWrong)

/-- 'quillwortlaw02.UndoPlays': WHATEVER THE INPUT: true; the input reads as it did. -/
def undoPlaysSpec : ChangeSpec := { name := "undoPlays", fn := fun _ => fun
  | [d1, d2] => { results := [.lit (.bool true)], args := [d1, d2] }
  | _ => none }
def undoPlaysRow : OpenClaim := { program := "ytkinjjgaecbogaa", sum := "95120d36e27f9da855d5aaed78a49753c683f21f6fe5e0e97bb41e28b1fa63a2", func := "quillwort/quillwortlaw02.UndoPlays", spec := "undoPlays", unfollowed := true, recurses := true, apart := false }
def UndoPlaysSaid : Prop := undoPlaysRow.holds Try.pinned (OpenSpec.ofChange undoPlaysSpec)

/-- ITS FALSE NEIGHBOUR: 'it returns false'. Refute it at one input. -/
def undoPlaysWrong : ChangeSpec := { name := "undoPlays", fn := fun _ => fun
  | [d1, d2] => { results := [.lit (.bool false)], args := [d1, d2] }
  | _ => none }
def UndoPlaysWrongFalsely : Prop := undoPlaysRow.holds Try.pinned (OpenSpec.ofChange undoPlaysWrong)

/-- 'quillwortlaw02.UndoTexts': WHATEVER THE INPUT: true; the input reads as it did. -/
def undoTextsSpec : ChangeSpec := { name := "undoTexts", fn := fun _ => fun
  | [d1, d2, d3] => { results := [.lit (.bool true)], args := [d1, d2, d3] }
  | _ => none }
def undoTextsRow : OpenClaim := { program := "ytkinjjgaecbogaa", sum := "95120d36e27f9da855d5aaed78a49753c683f21f6fe5e0e97bb41e28b1fa63a2", func := "quillwort/quillwortlaw02.UndoTexts", spec := "undoTexts", unfollowed := true, recurses := true, apart := false }
def UndoTextsSaid : Prop := undoTextsRow.holds Try.pinned (OpenSpec.ofChange undoTextsSpec)

/-- ITS FALSE NEIGHBOUR: 'it returns false'. Refute it at one input. -/
def undoTextsWrong : ChangeSpec := { name := "undoTexts", fn := fun _ => fun
  | [d1, d2, d3] => { results := [.lit (.bool false)], args := [d1, d2, d3] }
  | _ => none }
def UndoTextsWrongFalsely : Prop := undoTextsRow.holds Try.pinned (OpenSpec.ofChange undoTextsWrong)

/-- 'quillwortlaw02.UndoRings': WHATEVER THE INPUT: true; the input reads as it did. -/
def undoRingsSpec : ChangeSpec := { name := "undoRings", fn := fun _ => fun
  | [d] => { results := [.lit (.bool true)], args := [d] }
  | _ => none }
def undoRingsRow : OpenClaim := { program := "ytkinjjgaecbogaa", sum := "95120d36e27f9da855d5aaed78a49753c683f21f6fe5e0e97bb41e28b1fa63a2", func := "quillwort/quillwortlaw02.UndoRings", spec := "undoRings", unfollowed := true, recurses := true, apart := false }
def UndoRingsSaid : Prop := undoRingsRow.holds Try.pinned (OpenSpec.ofChange undoRingsSpec)

/-- ITS FALSE NEIGHBOUR: 'it returns false'. Refute it at one input. -/
def undoRingsWrong : ChangeSpec := { name := "undoRings", fn := fun _ => fun
  | [d] => { results := [.lit (.bool false)], args := [d] }
  | _ => none }
def UndoRingsWrongFalsely : Prop := undoRingsRow.holds Try.pinned (OpenSpec.ofChange undoRingsWrong)

/- THE SECOND FORM. 'bulk': how many values and letters a reading holds, each counted each time it is reached (what is shared counts as often as it is met; a slice's spare places count too). A statement '..UptoSaid' is the law's where the arguments, and the package variables that the reading takes, are together of bulk at most 1048576: NARROWER than '..Said'. Prove '..Said' where nothing that the law and all that it calls make is longer than what came in: it says more and counts as full. Else prove '..UptoSaid'. A law counts once. -/
mutual
def uptoBulk {H : Type} : DataW H → Nat
  | .lit (.string bytes) => bytes.length + 1
  | .lit _ => 1
  | .nil => 1
  | .ptr d => uptoBulk d + 1
  | .slice elems spare => uptoBulkAll elems + uptoBulkAll spare + 1
  | .agg parts => uptoBulkAll parts + 1
  | .iface _ d => uptoBulk d + 1
  | .map entries => uptoBulkEntries entries + 1
  | .held _ => 1
def uptoBulkAll {H : Type} : List (DataW H) → Nat
  | [] => 0
  | d :: r => uptoBulk d + uptoBulkAll r
def uptoBulkEntries {H : Type} : List (Lit × DataW H) → Nat
  | [] => 0
  | x :: r => uptoBulkEntry x + uptoBulkEntries r
def uptoBulkEntry {H : Type} : Lit × DataW H → Nat
  | (.string bytes, d) => bytes.length + uptoBulk d + 1
  | (_, d) => uptoBulk d + 1
 end
def uptoSmall : (H : Type) → List (DataW H) → Bool := fun _ ds => decide (uptoBulkAll ds ≤ 1048576)
def OpenSpec.upto (s : _root_.Go.ChangeSpec) : _root_.Go.OpenSpec := { _root_.Go.OpenSpec.ofChange s with cond := some uptoSmall }

/-- 'quillwortlaw30.HistAdds', WHERE WHAT IT READS IS OF BULK AT MOST 1048576: true; the input reads as it did. -/
def histAddsUptoRow : OpenClaim := { program := "ytkinjjgaecbogaa", sum := "95120d36e27f9da855d5aaed78a49753c683f21f6fe5e0e97bb41e28b1fa63a2", func := "quillwort/quillwortlaw30.HistAdds", spec := "histAdds", apart := false, narrowed := true }
def HistAddsUptoSaid : Prop := histAddsUptoRow.holds Try.pinned (OpenSpec.upto histAddsSpec)

/-- 'quillwortlaw30.HistWalks', WHERE WHAT IT READS IS OF BULK AT MOST 1048576: true; the input reads as it did. -/
def histWalksUptoRow : OpenClaim := { program := "ytkinjjgaecbogaa", sum := "95120d36e27f9da855d5aaed78a49753c683f21f6fe5e0e97bb41e28b1fa63a2", func := "quillwort/quillwortlaw30.HistWalks", spec := "histWalks", apart := false, narrowed := true }
def HistWalksUptoSaid : Prop := histWalksUptoRow.holds Try.pinned (OpenSpec.upto histWalksSpec)

/-- 'quillwortlaw30.HistThere', WHERE WHAT IT READS IS OF BULK AT MOST 1048576: true; the input reads as it did. -/
def histThereUptoRow : OpenClaim := { program := "ytkinjjgaecbogaa", sum := "95120d36e27f9da855d5aaed78a49753c683f21f6fe5e0e97bb41e28b1fa63a2", func := "quillwort/quillwortlaw30.HistThere", spec := "histThere", apart := false, narrowed := true }
def HistThereUptoSaid : Prop := histThereUptoRow.holds Try.pinned (OpenSpec.upto histThereSpec)

/-- 'quillwortlaw26.FieldsSplit', WHERE WHAT IT READS IS OF BULK AT MOST 1048576: true; the input reads as it did. -/
def fieldsSplitUptoRow : OpenClaim := { program := "ytkinjjgaecbogaa", sum := "95120d36e27f9da855d5aaed78a49753c683f21f6fe5e0e97bb41e28b1fa63a2", func := "quillwort/quillwortlaw26.FieldsSplit", spec := "fieldsSplit", inPlace := ["internal/bytealg.IndexByteString"], unfollowed := true, recurses := true, apart := false, narrowed := true }
def FieldsSplitUptoSaid : Prop := fieldsSplitUptoRow.holds Try.pinned (OpenSpec.upto fieldsSplitSpec)

/-- 'quillwortlaw26.FieldsWhole', WHERE WHAT IT READS IS OF BULK AT MOST 1048576: true; the input reads as it did. -/
def fieldsWholeUptoRow : OpenClaim := { program := "ytkinjjgaecbogaa", sum := "95120d36e27f9da855d5aaed78a49753c683f21f6fe5e0e97bb41e28b1fa63a2", func := "quillwort/quillwortlaw26.FieldsWhole", spec := "fieldsWhole", inPlace := ["internal/bytealg.IndexByteString"], unfollowed := true, recurses := true, apart := false, narrowed := true }
def FieldsWholeUptoSaid : Prop := fieldsWholeUptoRow.holds Try.pinned (OpenSpec.upto fieldsWholeSpec)

/-- 'quillwortlaw26.FieldsBetween', WHERE WHAT IT READS IS OF BULK AT MOST 1048576: true; the input reads as it did. -/
def fieldsBetweenUptoRow : OpenClaim := { program := "ytkinjjgaecbogaa", sum := "95120d36e27f9da855d5aaed78a49753c683f21f6fe5e0e97bb41e28b1fa63a2", func := "quillwort/quillwortlaw26.FieldsBetween", spec := "fieldsBetween", inPlace := ["internal/bytealg.IndexByteString"], unfollowed := true, recurses := true, apart := false, narrowed := true }
def FieldsBetweenUptoSaid : Prop := fieldsBetweenUptoRow.holds Try.pinned (OpenSpec.upto fieldsBetweenSpec)

/-- 'quillwortlaw26.FieldsJoin', WHERE WHAT IT READS IS OF BULK AT MOST 1048576: true; the input reads as it did. -/
def fieldsJoinUptoRow : OpenClaim := { program := "ytkinjjgaecbogaa", sum := "95120d36e27f9da855d5aaed78a49753c683f21f6fe5e0e97bb41e28b1fa63a2", func := "quillwort/quillwortlaw26.FieldsJoin", spec := "fieldsJoin", inPlace := ["internal/bytealg.IndexByteString", "internal/abi.NoEscape", "internal/bytealg.MakeNoZero"], unfollowed := true, recurses := true, apart := false, narrowed := true }
def FieldsJoinUptoSaid : Prop := fieldsJoinUptoRow.holds Try.pinned (OpenSpec.upto fieldsJoinSpec)

/-- 'quillwortlaw03.LinesNear', WHERE WHAT IT READS IS OF BULK AT MOST 1048576: true; the input reads as it did. -/
def linesNearUptoRow : OpenClaim := { program := "ytkinjjgaecbogaa", sum := "95120d36e27f9da855d5aaed78a49753c683f21f6fe5e0e97bb41e28b1fa63a2", func := "quillwort/quillwortlaw03.LinesNear", spec := "linesNear", unfollowed := true, recurses := true, apart := false, narrowed := true }
def LinesNearUptoSaid : Prop := linesNearUptoRow.holds Try.pinned (OpenSpec.upto linesNearSpec)

/-- 'quillwortlaw03.LinesTell', WHERE WHAT IT READS IS OF BULK AT MOST 1048576: true; the input reads as it did. -/
def linesTellUptoRow : OpenClaim := { program := "ytkinjjgaecbogaa", sum := "95120d36e27f9da855d5aaed78a49753c683f21f6fe5e0e97bb41e28b1fa63a2", func := "quillwort/quillwortlaw03.LinesTell", spec := "linesTell", unfollowed := true, recurses := true, apart := false, narrowed := true }
def LinesTellUptoSaid : Prop := linesTellUptoRow.holds Try.pinned (OpenSpec.upto linesTellSpec)

/-- 'quillwortlaw03.LinesFollow', WHERE WHAT IT READS IS OF BULK AT MOST 1048576: true; the input reads as it did. -/
def linesFollowUptoRow : OpenClaim := { program := "ytkinjjgaecbogaa", sum := "95120d36e27f9da855d5aaed78a49753c683f21f6fe5e0e97bb41e28b1fa63a2", func := "quillwort/quillwortlaw03.LinesFollow", spec := "linesFollow", inPlace := ["internal/bytealg.CountString", "internal/bytealg.IndexByteString", "internal/bytealg.IndexString"], unfollowed := true, recurses := true, named := ["internal/bytealg.MaxLen"], apart := false, narrowed := true }
def LinesFollowUptoSaid : Prop := linesFollowUptoRow.holds Try.pinned (OpenSpec.upto linesFollowSpec)

/-- 'quillwortlaw02.UndoPlays', WHERE WHAT IT READS IS OF BULK AT MOST 1048576: true; the input reads as it did. -/
def undoPlaysUptoRow : OpenClaim := { program := "ytkinjjgaecbogaa", sum := "95120d36e27f9da855d5aaed78a49753c683f21f6fe5e0e97bb41e28b1fa63a2", func := "quillwort/quillwortlaw02.UndoPlays", spec := "undoPlays", unfollowed := true, recurses := true, apart := false, narrowed := true }
def UndoPlaysUptoSaid : Prop := undoPlaysUptoRow.holds Try.pinned (OpenSpec.upto undoPlaysSpec)

/-- 'quillwortlaw02.UndoTexts', WHERE WHAT IT READS IS OF BULK AT MOST 1048576: true; the input reads as it did. -/
def undoTextsUptoRow : OpenClaim := { program := "ytkinjjgaecbogaa", sum := "95120d36e27f9da855d5aaed78a49753c683f21f6fe5e0e97bb41e28b1fa63a2", func := "quillwort/quillwortlaw02.UndoTexts", spec := "undoTexts", unfollowed := true, recurses := true, apart := false, narrowed := true }
def UndoTextsUptoSaid : Prop := undoTextsUptoRow.holds Try.pinned (OpenSpec.upto undoTextsSpec)

/-- 'quillwortlaw02.UndoRings', WHERE WHAT IT READS IS OF BULK AT MOST 1048576: true; the input reads as it did. -/
def undoRingsUptoRow : OpenClaim := { program := "ytkinjjgaecbogaa", sum := "95120d36e27f9da855d5aaed78a49753c683f21f6fe5e0e97bb41e28b1fa63a2", func := "quillwort/quillwortlaw02.UndoRings", spec := "undoRings", unfollowed := true, recurses := true, apart := false, narrowed := true }
def UndoRingsUptoSaid : Prop := undoRingsUptoRow.holds Try.pinned (OpenSpec.upto undoRingsSpec)

end Rows
end Go.Proofs.Ytkinjjgaecbogaa
