/-
  No cell of these rows narrows 'for every input' (looked for: loops, veiled, ifaces, maps, wideKeys, modest, calm, conditions, laid).
  DERIVED. THE GIVEN ROWS OF THIS SEAT. 13 by the template 'for every input the law returns true; each argument reads behind the call as it read before'; 0 by the template 'total and deterministic' (their statements: YteojepadhonbiaaTotals.lean).
  GIVEN WITH THE SEED: the statements are not yours to turn. If you find one false, say at which input.
  Laid BY PROGRAM, IN A SANDBOX (cutbox-rows.mjs): the forced cells as the released guide's own fill.sh prints them over the translation 6541adeec4c4132a… (all of the seat's roots in one cut). By AI agents, Wed Nov 11 2026. No macro, syntax, notation, axiom, sorry.
-/
import Derived.Test.YteojepadhonbiaaChecked
import GoSem.Claim
import GoSem.ClaimJoined
import GoSem.ClaimMapViews
import Derived.JoinedTies
import Derived.KernelRfl
namespace Go.Proofs.Yteojepadhonbiaa
/- THE CELL 'sum', in the pinned program and in every row, IS THE sha256 OF THE DUMP (.gsa) THAT YteojepadhonbiaaProg.lean LOADS. Nothing in Lean hashes anything: it is a label: what it is worth is what the hold of that sum in a sandbox is worth. -/
noncomputable def Try.pinned : Pinned := { name := "yteojepadhonbiaa", sum := "6541adeec4c4132a323328306f9a3e4d45aea436ded5e7810f2d06558f79ba3b", checked := Try.checked }
namespace Rows
def none {H : Type} : Left H := { results := [], args := [] }

/-- 'quillwortlaw19.TablesMay': WHATEVER THE INPUT: true; the input reads as it did. -/
def tablesMaySpec : ChangeSpec := { name := "tablesMay", fn := fun _ => fun
  | [d1, d2] => { results := [.lit (.bool true)], args := [d1, d2] }
  | _ => none }
def tablesMayRow : OpenClaim := { program := "yteojepadhonbiaa", sum := "6541adeec4c4132a323328306f9a3e4d45aea436ded5e7810f2d06558f79ba3b", func := "quillwort/quillwortlaw19.TablesMay", spec := "tablesMay", inPlace := ["internal/bytealg.abigen_runtime_cmpstring", "slices.overlaps[quillwort/api.Entry]"], unfollowed := true, recurses := true, apart := false }
def TablesMaySaid : Prop := tablesMayRow.holds Try.pinned (OpenSpec.ofChange tablesMaySpec)

/-- ITS FALSE NEIGHBOUR: 'it returns false'. Refute it at one input. -/
def tablesMayWrong : ChangeSpec := { name := "tablesMay", fn := fun _ => fun
  | [d1, d2] => { results := [.lit (.bool false)], args := [d1, d2] }
  | _ => none }
def TablesMayWrongFalsely : Prop := tablesMayRow.holds Try.pinned (OpenSpec.ofChange tablesMayWrong)

/-- 'quillwortlaw19.TablesWith': WHATEVER THE INPUT: true; the input reads as it did. -/
def tablesWithSpec : ChangeSpec := { name := "tablesWith", fn := fun _ => fun
  | [d1, d2, d3] => { results := [.lit (.bool true)], args := [d1, d2, d3] }
  | _ => none }
def tablesWithRow : OpenClaim := { program := "yteojepadhonbiaa", sum := "6541adeec4c4132a323328306f9a3e4d45aea436ded5e7810f2d06558f79ba3b", func := "quillwort/quillwortlaw19.TablesWith", spec := "tablesWith", inPlace := ["internal/bytealg.abigen_runtime_cmpstring", "slices.overlaps[quillwort/api.Entry]"], unfollowed := true, recurses := true, apart := false }
def TablesWithSaid : Prop := tablesWithRow.holds Try.pinned (OpenSpec.ofChange tablesWithSpec)

/-- ITS FALSE NEIGHBOUR: 'it returns false'. Refute it at one input. -/
def tablesWithWrong : ChangeSpec := { name := "tablesWith", fn := fun _ => fun
  | [d1, d2, d3] => { results := [.lit (.bool false)], args := [d1, d2, d3] }
  | _ => none }
def TablesWithWrongFalsely : Prop := tablesWithRow.holds Try.pinned (OpenSpec.ofChange tablesWithWrong)

/-- 'quillwortlaw19.TablesOrder': WHATEVER THE INPUT: true; the input reads as it did. -/
def tablesOrderSpec : ChangeSpec := { name := "tablesOrder", fn := fun _ => fun
  | [d1, d2] => { results := [.lit (.bool true)], args := [d1, d2] }
  | _ => none }
def tablesOrderRow : OpenClaim := { program := "yteojepadhonbiaa", sum := "6541adeec4c4132a323328306f9a3e4d45aea436ded5e7810f2d06558f79ba3b", func := "quillwort/quillwortlaw19.TablesOrder", spec := "tablesOrder", inPlace := ["internal/bytealg.abigen_runtime_cmpstring", "slices.overlaps[quillwort/api.Entry]"], unfollowed := true, recurses := true, apart := false }
def TablesOrderSaid : Prop := tablesOrderRow.holds Try.pinned (OpenSpec.ofChange tablesOrderSpec)

/-- ITS FALSE NEIGHBOUR: 'it returns false'. Refute it at one input. -/
def tablesOrderWrong : ChangeSpec := { name := "tablesOrder", fn := fun _ => fun
  | [d1, d2] => { results := [.lit (.bool false)], args := [d1, d2] }
  | _ => none }
def TablesOrderWrongFalsely : Prop := tablesOrderRow.holds Try.pinned (OpenSpec.ofChange tablesOrderWrong)

/-- 'quillwortlaw19.TablesPlay': WHATEVER THE INPUT: true; the input reads as it did. -/
def tablesPlaySpec : ChangeSpec := { name := "tablesPlay", fn := fun _ => fun
  | [d1, d2] => { results := [.lit (.bool true)], args := [d1, d2] }
  | _ => none }
def tablesPlayRow : OpenClaim := { program := "yteojepadhonbiaa", sum := "6541adeec4c4132a323328306f9a3e4d45aea436ded5e7810f2d06558f79ba3b", func := "quillwort/quillwortlaw19.TablesPlay", spec := "tablesPlay", inPlace := ["internal/bytealg.abigen_runtime_cmpstring", "slices.overlaps[quillwort/api.Entry]"], unfollowed := true, recurses := true, apart := false }
def TablesPlaySaid : Prop := tablesPlayRow.holds Try.pinned (OpenSpec.ofChange tablesPlaySpec)

/-- ITS FALSE NEIGHBOUR: 'it returns false'. Refute it at one input. -/
def tablesPlayWrong : ChangeSpec := { name := "tablesPlay", fn := fun _ => fun
  | [d1, d2] => { results := [.lit (.bool false)], args := [d1, d2] }
  | _ => none }
def TablesPlayWrongFalsely : Prop := tablesPlayRow.holds Try.pinned (OpenSpec.ofChange tablesPlayWrong)

/-- 'quillwortlaw16.PatternParses': WHATEVER THE INPUT: true; the input reads as it did. -/
def patternParsesSpec : ChangeSpec := { name := "patternParses", fn := fun _ => fun
  | [d] => { results := [.lit (.bool true)], args := [d] }
  | _ => none }
def patternParsesRow : OpenClaim := { program := "yteojepadhonbiaa", sum := "6541adeec4c4132a323328306f9a3e4d45aea436ded5e7810f2d06558f79ba3b", func := "quillwort/quillwortlaw16.PatternParses", spec := "patternParses", inPlace := ["internal/bytealg.IndexByteString", "internal/bytealg.IndexString"], unfollowed := true, recurses := true, named := ["internal/bytealg.MaxLen"], apart := false }
def PatternParsesSaid : Prop := patternParsesRow.holds Try.pinned (OpenSpec.ofChange patternParsesSpec)

/-- ITS FALSE NEIGHBOUR: 'it returns false'. Refute it at one input. -/
def patternParsesWrong : ChangeSpec := { name := "patternParses", fn := fun _ => fun
  | [d] => { results := [.lit (.bool false)], args := [d] }
  | _ => none }
def PatternParsesWrongFalsely : Prop := patternParsesRow.holds Try.pinned (OpenSpec.ofChange patternParsesWrong)

/-- 'quillwortlaw16.PatternMatches': WHATEVER THE INPUT: true; the input reads as it did. -/
def patternMatchesSpec : ChangeSpec := { name := "patternMatches", fn := fun _ => fun
  | [d1, d2] => { results := [.lit (.bool true)], args := [d1, d2] }
  | _ => none }
def patternMatchesRow : OpenClaim := { program := "yteojepadhonbiaa", sum := "6541adeec4c4132a323328306f9a3e4d45aea436ded5e7810f2d06558f79ba3b", func := "quillwort/quillwortlaw16.PatternMatches", spec := "patternMatches", inPlace := ["internal/bytealg.IndexByteString", "internal/bytealg.IndexString"], unfollowed := true, recurses := true, named := ["internal/bytealg.MaxLen"], apart := false }
def PatternMatchesSaid : Prop := patternMatchesRow.holds Try.pinned (OpenSpec.ofChange patternMatchesSpec)

/-- ITS FALSE NEIGHBOUR: 'it returns false'. Refute it at one input. -/
def patternMatchesWrong : ChangeSpec := { name := "patternMatches", fn := fun _ => fun
  | [d1, d2] => { results := [.lit (.bool false)], args := [d1, d2] }
  | _ => none }
def PatternMatchesWrongFalsely : Prop := patternMatchesRow.holds Try.pinned (OpenSpec.ofChange patternMatchesWrong)

/-- 'quillwortlaw16.PatternEnds': WHATEVER THE INPUT: true; the input reads as it did. -/
def patternEndsSpec : ChangeSpec := { name := "patternEnds", fn := fun _ => fun
  | [d1, d2] => { results := [.lit (.bool true)], args := [d1, d2] }
  | _ => none }
def patternEndsRow : OpenClaim := { program := "yteojepadhonbiaa", sum := "6541adeec4c4132a323328306f9a3e4d45aea436ded5e7810f2d06558f79ba3b", func := "quillwort/quillwortlaw16.PatternEnds", spec := "patternEnds", inPlace := ["internal/bytealg.IndexByteString", "internal/bytealg.IndexString"], unfollowed := true, recurses := true, named := ["internal/bytealg.MaxLen"], apart := false }
def PatternEndsSaid : Prop := patternEndsRow.holds Try.pinned (OpenSpec.ofChange patternEndsSpec)

/-- ITS FALSE NEIGHBOUR: 'it returns false'. Refute it at one input. -/
def patternEndsWrong : ChangeSpec := { name := "patternEnds", fn := fun _ => fun
  | [d1, d2] => { results := [.lit (.bool false)], args := [d1, d2] }
  | _ => none }
def PatternEndsWrongFalsely : Prop := patternEndsRow.holds Try.pinned (OpenSpec.ofChange patternEndsWrong)

/-- 'quillwortlaw16.PatternQuotes': WHATEVER THE INPUT: true; the input reads as it did. -/
def patternQuotesSpec : ChangeSpec := { name := "patternQuotes", fn := fun _ => fun
  | [d1, d2] => { results := [.lit (.bool true)], args := [d1, d2] }
  | _ => none }
def patternQuotesRow : OpenClaim := { program := "yteojepadhonbiaa", sum := "6541adeec4c4132a323328306f9a3e4d45aea436ded5e7810f2d06558f79ba3b", func := "quillwort/quillwortlaw16.PatternQuotes", spec := "patternQuotes", inPlace := ["internal/bytealg.IndexByteString", "internal/bytealg.IndexString"], unfollowed := true, recurses := true, named := ["internal/bytealg.MaxLen"], apart := false }
def PatternQuotesSaid : Prop := patternQuotesRow.holds Try.pinned (OpenSpec.ofChange patternQuotesSpec)

/-- ITS FALSE NEIGHBOUR: 'it returns false'. Refute it at one input. -/
def patternQuotesWrong : ChangeSpec := { name := "patternQuotes", fn := fun _ => fun
  | [d1, d2] => { results := [.lit (.bool false)], args := [d1, d2] }
  | _ => none }
def PatternQuotesWrongFalsely : Prop := patternQuotesRow.holds Try.pinned (OpenSpec.ofChange patternQuotesWrong)

/-- 'quillwortlaw16.PatternLiteral': WHATEVER THE INPUT: true; the input reads as it did. -/
def patternLiteralSpec : ChangeSpec := { name := "patternLiteral", fn := fun _ => fun
  | [d1, d2] => { results := [.lit (.bool true)], args := [d1, d2] }
  | _ => none }
def patternLiteralRow : OpenClaim := { program := "yteojepadhonbiaa", sum := "6541adeec4c4132a323328306f9a3e4d45aea436ded5e7810f2d06558f79ba3b", func := "quillwort/quillwortlaw16.PatternLiteral", spec := "patternLiteral", inPlace := ["internal/bytealg.IndexByteString", "internal/bytealg.IndexString"], unfollowed := true, recurses := true, named := ["internal/bytealg.MaxLen"], apart := false }
def PatternLiteralSaid : Prop := patternLiteralRow.holds Try.pinned (OpenSpec.ofChange patternLiteralSpec)

/-- ITS FALSE NEIGHBOUR: 'it returns false'. Refute it at one input. -/
def patternLiteralWrong : ChangeSpec := { name := "patternLiteral", fn := fun _ => fun
  | [d1, d2] => { results := [.lit (.bool false)], args := [d1, d2] }
  | _ => none }
def PatternLiteralWrongFalsely : Prop := patternLiteralRow.holds Try.pinned (OpenSpec.ofChange patternLiteralWrong)

/-- 'quillwortlaw16.PatternBetween': WHATEVER THE INPUT: true; the input reads as it did. -/
def patternBetweenSpec : ChangeSpec := { name := "patternBetween", fn := fun _ => fun
  | [d1, d2, d3] => { results := [.lit (.bool true)], args := [d1, d2, d3] }
  | _ => none }
def patternBetweenRow : OpenClaim := { program := "yteojepadhonbiaa", sum := "6541adeec4c4132a323328306f9a3e4d45aea436ded5e7810f2d06558f79ba3b", func := "quillwort/quillwortlaw16.PatternBetween", spec := "patternBetween", inPlace := ["internal/bytealg.IndexByteString", "internal/bytealg.IndexString"], unfollowed := true, recurses := true, named := ["internal/bytealg.MaxLen"], apart := false }
def PatternBetweenSaid : Prop := patternBetweenRow.holds Try.pinned (OpenSpec.ofChange patternBetweenSpec)

/-- ITS FALSE NEIGHBOUR: 'it returns false'. Refute it at one input. -/
def patternBetweenWrong : ChangeSpec := { name := "patternBetween", fn := fun _ => fun
  | [d1, d2, d3] => { results := [.lit (.bool false)], args := [d1, d2, d3] }
  | _ => none }
def PatternBetweenWrongFalsely : Prop := patternBetweenRow.holds Try.pinned (OpenSpec.ofChange patternBetweenWrong)

/-- 'quillwortlaw18.FilesPaths': WHATEVER THE INPUT: true; the input reads as it did. -/
def filesPathsSpec : ChangeSpec := { name := "filesPaths", fn := fun _ => fun
  | [d1, d2] => { results := [.lit (.bool true)], args := [d1, d2] }
  | _ => none }
def filesPathsRow : OpenClaim := { program := "yteojepadhonbiaa", sum := "6541adeec4c4132a323328306f9a3e4d45aea436ded5e7810f2d06558f79ba3b", func := "quillwort/quillwortlaw18.FilesPaths", spec := "filesPaths", inPlace := ["internal/bytealg.IndexByteString", "internal/bytealg.IndexString", "internal/abi.NoEscape", "internal/bytealg.MakeNoZero"], unfollowed := true, recurses := true, named := ["internal/bytealg.MaxLen"], apart := false }
def FilesPathsSaid : Prop := filesPathsRow.holds Try.pinned (OpenSpec.ofChange filesPathsSpec)

/-- ITS FALSE NEIGHBOUR: 'it returns false'. Refute it at one input. -/
def filesPathsWrong : ChangeSpec := { name := "filesPaths", fn := fun _ => fun
  | [d1, d2] => { results := [.lit (.bool false)], args := [d1, d2] }
  | _ => none }
def FilesPathsWrongFalsely : Prop := filesPathsRow.holds Try.pinned (OpenSpec.ofChange filesPathsWrong)

/-- 'quillwortlaw18.FilesCleans': WHATEVER THE INPUT: true; the input reads as it did. -/
def filesCleansSpec : ChangeSpec := { name := "filesCleans", fn := fun _ => fun
  | [d1, d2, d3, d4] => { results := [.lit (.bool true)], args := [d1, d2, d3, d4] }
  | _ => none }
def filesCleansRow : OpenClaim := { program := "yteojepadhonbiaa", sum := "6541adeec4c4132a323328306f9a3e4d45aea436ded5e7810f2d06558f79ba3b", func := "quillwort/quillwortlaw18.FilesCleans", spec := "filesCleans", inPlace := ["internal/bytealg.IndexByteString", "internal/bytealg.IndexString", "internal/abi.NoEscape", "internal/bytealg.MakeNoZero"], unfollowed := true, recurses := true, named := ["internal/bytealg.MaxLen"], apart := false }
def FilesCleansSaid : Prop := filesCleansRow.holds Try.pinned (OpenSpec.ofChange filesCleansSpec)

/-- ITS FALSE NEIGHBOUR: 'it returns false'. Refute it at one input. -/
def filesCleansWrong : ChangeSpec := { name := "filesCleans", fn := fun _ => fun
  | [d1, d2, d3, d4] => { results := [.lit (.bool false)], args := [d1, d2, d3, d4] }
  | _ => none }
def FilesCleansWrongFalsely : Prop := filesCleansRow.holds Try.pinned (OpenSpec.ofChange filesCleansWrong)

/-- 'quillwortlaw30.HistFinds': WHATEVER THE INPUT: true; the input reads as it did. -/
def histFindsSpec : ChangeSpec := { name := "histFinds", fn := fun _ => fun
  | [d1, d2, d3, d4] => { results := [.lit (.bool true)], args := [d1, d2, d3, d4] }
  | _ => none }
def histFindsRow : OpenClaim := { program := "yteojepadhonbiaa", sum := "6541adeec4c4132a323328306f9a3e4d45aea436ded5e7810f2d06558f79ba3b", func := "quillwort/quillwortlaw30.HistFinds", spec := "histFinds", inPlace := ["internal/bytealg.IndexByteString", "internal/bytealg.IndexString"], unfollowed := true, recurses := true, named := ["internal/bytealg.MaxLen"], apart := false }
def HistFindsSaid : Prop := histFindsRow.holds Try.pinned (OpenSpec.ofChange histFindsSpec)

/-- ITS FALSE NEIGHBOUR: 'it returns false'. Refute it at one input. -/
def histFindsWrong : ChangeSpec := { name := "histFinds", fn := fun _ => fun
  | [d1, d2, d3, d4] => { results := [.lit (.bool false)], args := [d1, d2, d3, d4] }
  | _ => none }
def HistFindsWrongFalsely : Prop := histFindsRow.holds Try.pinned (OpenSpec.ofChange histFindsWrong)

/- THE SECOND FORM. 'bulk': how many values and letters a reading holds, each counted each time it is reached (what is shared counts as often as it is met; a slice's spare places count too). A statement '..UptoSaid' is the law's where the arguments, and the package variables that the reading takes, are together of bulk at most 1048576: NARROWER than '..Said'. Prove '..Said' where nothing that the law and all that it calls make is longer than what came in: it says more and counts as full. Else prove '..UptoSaid'. A law counts once. -/
mutual
def uptoBulk {H : Type} : DataW H → Nat
  | .lit (.string bytes) => bytes.length + 1
  | .lit _ => 1
  | .nil => 1
  | .ptr d => uptoBulk d + 1
  | .slice elems spare => uptoBulkAll elems + uptoBulkAll spare + 1
  | .agg parts => uptoBulkAll parts + 1
  | .iface _ d => uptoBulk d + 1
  | .map entries => uptoBulkEntries entries + 1
  | .held _ => 1
def uptoBulkAll {H : Type} : List (DataW H) → Nat
  | [] => 0
  | d :: r => uptoBulk d + uptoBulkAll r
def uptoBulkEntries {H : Type} : List (Lit × DataW H) → Nat
  | [] => 0
  | x :: r => uptoBulkEntry x + uptoBulkEntries r
def uptoBulkEntry {H : Type} : Lit × DataW H → Nat
  | (.string bytes, d) => bytes.length + uptoBulk d + 1
  | (_, d) => uptoBulk d + 1
 end
def uptoSmall : (H : Type) → List (DataW H) → Bool := fun _ ds => decide (uptoBulkAll ds ≤ 1048576)
def OpenSpec.upto (s : _root_.Go.ChangeSpec) : _root_.Go.OpenSpec := { _root_.Go.OpenSpec.ofChange s with cond := some uptoSmall }

/-- 'quillwortlaw19.TablesMay', WHERE WHAT IT READS IS OF BULK AT MOST 1048576: true; the input reads as it did. -/
def tablesMayUptoRow : OpenClaim := { program := "yteojepadhonbiaa", sum := "6541adeec4c4132a323328306f9a3e4d45aea436ded5e7810f2d06558f79ba3b", func := "quillwort/quillwortlaw19.TablesMay", spec := "tablesMay", inPlace := ["internal/bytealg.abigen_runtime_cmpstring", "slices.overlaps[quillwort/api.Entry]"], unfollowed := true, recurses := true, apart := false, narrowed := true }
def TablesMayUptoSaid : Prop := tablesMayUptoRow.holds Try.pinned (OpenSpec.upto tablesMaySpec)

/-- 'quillwortlaw19.TablesWith', WHERE WHAT IT READS IS OF BULK AT MOST 1048576: true; the input reads as it did. -/
def tablesWithUptoRow : OpenClaim := { program := "yteojepadhonbiaa", sum := "6541adeec4c4132a323328306f9a3e4d45aea436ded5e7810f2d06558f79ba3b", func := "quillwort/quillwortlaw19.TablesWith", spec := "tablesWith", inPlace := ["internal/bytealg.abigen_runtime_cmpstring", "slices.overlaps[quillwort/api.Entry]"], unfollowed := true, recurses := true, apart := false, narrowed := true }
def TablesWithUptoSaid : Prop := tablesWithUptoRow.holds Try.pinned (OpenSpec.upto tablesWithSpec)

/-- 'quillwortlaw19.TablesOrder', WHERE WHAT IT READS IS OF BULK AT MOST 1048576: true; the input reads as it did. -/
def tablesOrderUptoRow : OpenClaim := { program := "yteojepadhonbiaa", sum := "6541adeec4c4132a323328306f9a3e4d45aea436ded5e7810f2d06558f79ba3b", func := "quillwort/quillwortlaw19.TablesOrder", spec := "tablesOrder", inPlace := ["internal/bytealg.abigen_runtime_cmpstring", "slices.overlaps[quillwort/api.Entry]"], unfollowed := true, recurses := true, apart := false, narrowed := true }
def TablesOrderUptoSaid : Prop := tablesOrderUptoRow.holds Try.pinned (OpenSpec.upto tablesOrderSpec)

/-- 'quillwortlaw19.TablesPlay', WHERE WHAT IT READS IS OF BULK AT MOST 1048576: true; the input reads as it did. -/
def tablesPlayUptoRow : OpenClaim := { program := "yteojepadhonbiaa", sum := "6541adeec4c4132a323328306f9a3e4d45aea436ded5e7810f2d06558f79ba3b", func := "quillwort/quillwortlaw19.TablesPlay", spec := "tablesPlay", inPlace := ["internal/bytealg.abigen_runtime_cmpstring", "slices.overlaps[quillwort/api.Entry]"], unfollowed := true, recurses := true, apart := false, narrowed := true }
def TablesPlayUptoSaid : Prop := tablesPlayUptoRow.holds Try.pinned (OpenSpec.upto tablesPlaySpec)

/-- 'quillwortlaw16.PatternParses', WHERE WHAT IT READS IS OF BULK AT MOST 1048576: true; the input reads as it did. -/
def patternParsesUptoRow : OpenClaim := { program := "yteojepadhonbiaa", sum := "6541adeec4c4132a323328306f9a3e4d45aea436ded5e7810f2d06558f79ba3b", func := "quillwort/quillwortlaw16.PatternParses", spec := "patternParses", inPlace := ["internal/bytealg.IndexByteString", "internal/bytealg.IndexString"], unfollowed := true, recurses := true, named := ["internal/bytealg.MaxLen"], apart := false, narrowed := true }
def PatternParsesUptoSaid : Prop := patternParsesUptoRow.holds Try.pinned (OpenSpec.upto patternParsesSpec)

/-- 'quillwortlaw16.PatternMatches', WHERE WHAT IT READS IS OF BULK AT MOST 1048576: true; the input reads as it did. -/
def patternMatchesUptoRow : OpenClaim := { program := "yteojepadhonbiaa", sum := "6541adeec4c4132a323328306f9a3e4d45aea436ded5e7810f2d06558f79ba3b", func := "quillwort/quillwortlaw16.PatternMatches", spec := "patternMatches", inPlace := ["internal/bytealg.IndexByteString", "internal/bytealg.IndexString"], unfollowed := true, recurses := true, named := ["internal/bytealg.MaxLen"], apart := false, narrowed := true }
def PatternMatchesUptoSaid : Prop := patternMatchesUptoRow.holds Try.pinned (OpenSpec.upto patternMatchesSpec)

/-- 'quillwortlaw16.PatternEnds', WHERE WHAT IT READS IS OF BULK AT MOST 1048576: true; the input reads as it did. -/
def patternEndsUptoRow : OpenClaim := { program := "yteojepadhonbiaa", sum := "6541adeec4c4132a323328306f9a3e4d45aea436ded5e7810f2d06558f79ba3b", func := "quillwort/quillwortlaw16.PatternEnds", spec := "patternEnds", inPlace := ["internal/bytealg.IndexByteString", "internal/bytealg.IndexString"], unfollowed := true, recurses := true, named := ["internal/bytealg.MaxLen"], apart := false, narrowed := true }
def PatternEndsUptoSaid : Prop := patternEndsUptoRow.holds Try.pinned (OpenSpec.upto patternEndsSpec)

/-- 'quillwortlaw16.PatternQuotes', WHERE WHAT IT READS IS OF BULK AT MOST 1048576: true; the input reads as it did. -/
def patternQuotesUptoRow : OpenClaim := { program := "yteojepadhonbiaa", sum := "6541adeec4c4132a323328306f9a3e4d45aea436ded5e7810f2d06558f79ba3b", func := "quillwort/quillwortlaw16.PatternQuotes", spec := "patternQuotes", inPlace := ["internal/bytealg.IndexByteString", "internal/bytealg.IndexString"], unfollowed := true, recurses := true, named := ["internal/bytealg.MaxLen"], apart := false, narrowed := true }
def PatternQuotesUptoSaid : Prop := patternQuotesUptoRow.holds Try.pinned (OpenSpec.upto patternQuotesSpec)

/-- 'quillwortlaw16.PatternLiteral', WHERE WHAT IT READS IS OF BULK AT MOST 1048576: true; the input reads as it did. -/
def patternLiteralUptoRow : OpenClaim := { program := "yteojepadhonbiaa", sum := "6541adeec4c4132a323328306f9a3e4d45aea436ded5e7810f2d06558f79ba3b", func := "quillwort/quillwortlaw16.PatternLiteral", spec := "patternLiteral", inPlace := ["internal/bytealg.IndexByteString", "internal/bytealg.IndexString"], unfollowed := true, recurses := true, named := ["internal/bytealg.MaxLen"], apart := false, narrowed := true }
def PatternLiteralUptoSaid : Prop := patternLiteralUptoRow.holds Try.pinned (OpenSpec.upto patternLiteralSpec)

/-- 'quillwortlaw16.PatternBetween', WHERE WHAT IT READS IS OF BULK AT MOST 1048576: true; the input reads as it did. -/
def patternBetweenUptoRow : OpenClaim := { program := "yteojepadhonbiaa", sum := "6541adeec4c4132a323328306f9a3e4d45aea436ded5e7810f2d06558f79ba3b", func := "quillwort/quillwortlaw16.PatternBetween", spec := "patternBetween", inPlace := ["internal/bytealg.IndexByteString", "internal/bytealg.IndexString"], unfollowed := true, recurses := true, named := ["internal/bytealg.MaxLen"], apart := false, narrowed := true }
def PatternBetweenUptoSaid : Prop := patternBetweenUptoRow.holds Try.pinned (OpenSpec.upto patternBetweenSpec)

/-- 'quillwortlaw18.FilesPaths', WHERE WHAT IT READS IS OF BULK AT MOST 1048576: true; the input reads as it did. -/
def filesPathsUptoRow : OpenClaim := { program := "yteojepadhonbiaa", sum := "6541adeec4c4132a323328306f9a3e4d45aea436ded5e7810f2d06558f79ba3b", func := "quillwort/quillwortlaw18.FilesPaths", spec := "filesPaths", inPlace := ["internal/bytealg.IndexByteString", "internal/bytealg.IndexString", "internal/abi.NoEscape", "internal/bytealg.MakeNoZero"], unfollowed := true, recurses := true, named := ["internal/bytealg.MaxLen"], apart := false, narrowed := true }
def FilesPathsUptoSaid : Prop := filesPathsUptoRow.holds Try.pinned (OpenSpec.upto filesPathsSpec)

/-- 'quillwortlaw18.FilesCleans', WHERE WHAT IT READS IS OF BULK AT MOST 1048576: true; the input reads as it did. -/
def filesCleansUptoRow : OpenClaim := { program := "yteojepadhonbiaa", sum := "6541adeec4c4132a323328306f9a3e4d45aea436ded5e7810f2d06558f79ba3b", func := "quillwort/quillwortlaw18.FilesCleans", spec := "filesCleans", inPlace := ["internal/bytealg.IndexByteString", "internal/bytealg.IndexString", "internal/abi.NoEscape", "internal/bytealg.MakeNoZero"], unfollowed := true, recurses := true, named := ["internal/bytealg.MaxLen"], apart := false, narrowed := true }
def FilesCleansUptoSaid : Prop := filesCleansUptoRow.holds Try.pinned (OpenSpec.upto filesCleansSpec)

/-- 'quillwortlaw30.HistFinds', WHERE WHAT IT READS IS OF BULK AT MOST 1048576: true; the input reads as it did. -/
def histFindsUptoRow : OpenClaim := { program := "yteojepadhonbiaa", sum := "6541adeec4c4132a323328306f9a3e4d45aea436ded5e7810f2d06558f79ba3b", func := "quillwort/quillwortlaw30.HistFinds", spec := "histFinds", inPlace := ["internal/bytealg.IndexByteString", "internal/bytealg.IndexString"], unfollowed := true, recurses := true, named := ["internal/bytealg.MaxLen"], apart := false, narrowed := true }
def HistFindsUptoSaid : Prop := histFindsUptoRow.holds Try.pinned (OpenSpec.upto histFindsSpec)

end Rows
end Go.Proofs.Yteojepadhonbiaa
