/-
  DERIVED. GIVEN WITH THE SEED: THE CARDS: each row of YtljinmfkogmmlaaDoorRows.lean that lists a variable, with what it lists TIED to the program's text (the seventh form; the later family's looks); each row that meets fmt, with fmt's text TOLD by the authors' own Lean function (tested against real Go, not proved from fmt's source: count such statements apart). THE CARD IS WHAT COUNTS. Prove the row's statement (the work); the ties are given (YtljinmfkogmmlaaDoorTie.lean); close each card by the builder's one call (the guide's Derived/Test/ToyasCard.lean, 'card_holds'). Laid BY PROGRAM, IN A SANDBOX (cutbox-door.mjs). By AI agents, Wed Nov 11 2026. No macro, syntax, notation, axiom, sorry.
-/
import Derived.Test.YtljinmfkogmmlaaDoorRows
import GoSem.ClaimSeven
namespace Go.Proofs.YtljinmfkogmmlaaDoor
namespace Rows

/-- THE TIED CARD OF 'quillwortlaw17.QuotingOn'. -/
def quotingOnCard : Claim7 := { stood := { row := quotingOnRow, standIns := [], harness := (true, "81e1a1930f1225e6cf001340f0f6a18215f333dd3c3217e821cc105c2ec05a2a"), looks := false }, kinds := [], alts := [], laidByText := true, laidKinds := [.data, .pinned], laidTests := true, laidLooks := .later }
def QuotingOnCardSaid : Prop := Claim7.holds Tryd.pinned (.plain (OpenSpec.ofChange quotingOnSpec)) quotingOnCard

/-- THE TIED CARD OF 'quillwortlaw17.QuotingLines'. -/
def quotingLinesCard : Claim7 := { stood := { row := quotingLinesRow, standIns := [], harness := (true, "81e1a1930f1225e6cf001340f0f6a18215f333dd3c3217e821cc105c2ec05a2a"), looks := false }, kinds := [], alts := [], laidByText := true, laidKinds := [.data, .pinned], laidTests := true, laidLooks := .later }
def QuotingLinesCardSaid : Prop := Claim7.holds Tryd.pinned (.plain (OpenSpec.ofChange quotingLinesSpec)) quotingLinesCard

/-- THE SECOND FORM's CARD OF 'quillwortlaw17.QuotingOn'. -/
def quotingOnUptoCard : Claim7 := { stood := { row := quotingOnUptoRow, standIns := [], harness := (true, "81e1a1930f1225e6cf001340f0f6a18215f333dd3c3217e821cc105c2ec05a2a"), looks := false }, kinds := [], alts := [], laidByText := true, laidKinds := [.data, .pinned], laidTests := true, laidLooks := .later }
def QuotingOnUptoCardSaid : Prop := Claim7.holds Tryd.pinned (.plain (OpenSpec.upto quotingOnSpec)) quotingOnUptoCard

/-- THE SECOND FORM's CARD OF 'quillwortlaw17.QuotingLines'. -/
def quotingLinesUptoCard : Claim7 := { stood := { row := quotingLinesUptoRow, standIns := [], harness := (true, "81e1a1930f1225e6cf001340f0f6a18215f333dd3c3217e821cc105c2ec05a2a"), looks := false }, kinds := [], alts := [], laidByText := true, laidKinds := [.data, .pinned], laidTests := true, laidLooks := .later }
def QuotingLinesUptoCardSaid : Prop := Claim7.holds Tryd.pinned (.plain (OpenSpec.upto quotingLinesSpec)) quotingLinesUptoCard
end Rows
end Go.Proofs.YtljinmfkogmmlaaDoor
