/-
  DERIVED. GIVEN WITH THE SEED: THE CARDS: each row of YtadlaaddpobhbaaDoorRows.lean that lists a variable, with what it lists TIED to the program's text (the seventh form; the later family's looks); each row that meets fmt, with fmt's text TOLD by the authors' own Lean function (tested against real Go, not proved from fmt's source: count such statements apart). THE CARD IS WHAT COUNTS. Prove the row's statement (the work); the ties are given (YtadlaaddpobhbaaDoorTie.lean); close each card by the builder's one call (the guide's Derived/Test/ToyasCard.lean, 'card_holds'). Laid BY PROGRAM, IN A SANDBOX (cutbox-door.mjs). By AI agents, Wed Nov 11 2026. No macro, syntax, notation, axiom, sorry.
-/
import Derived.Test.YtadlaaddpobhbaaDoorRows
import GoSem.ClaimSeven
namespace Go.Proofs.YtadlaaddpobhbaaDoor
namespace Rows

/-- THE TIED CARD OF 'quillwortlaw17.QuotingForms'. -/
def quotingFormsCard : Claim7 := { stood := { row := quotingFormsRow, standIns := [], harness := (true, "057e9c38a6b08ba0631060e67523f95741e01f5494a01d3264b2a0ef1bc24dc2"), looks := false }, kinds := [], alts := [], laidByText := true, laidKinds := [.data, .pinned], laidTests := true, laidLooks := .later }
def QuotingFormsCardSaid : Prop := Claim7.holds Tryd.pinned (.plain (OpenSpec.ofChange quotingFormsSpec)) quotingFormsCard

/-- THE TIED CARD OF 'quillwortlaw17.QuotingWord'. -/
def quotingWordCard : Claim7 := { stood := { row := quotingWordRow, standIns := [], harness := (true, "057e9c38a6b08ba0631060e67523f95741e01f5494a01d3264b2a0ef1bc24dc2"), looks := false }, kinds := [], alts := [], laidByText := true, laidKinds := [.data, .pinned], laidTests := true, laidLooks := .later }
def QuotingWordCardSaid : Prop := Claim7.holds Tryd.pinned (.plain (OpenSpec.ofChange quotingWordSpec)) quotingWordCard

/-- THE TIED CARD OF 'quillwortlaw17.QuotingStates'. -/
def quotingStatesCard : Claim7 := { stood := { row := quotingStatesRow, standIns := [], harness := (true, "057e9c38a6b08ba0631060e67523f95741e01f5494a01d3264b2a0ef1bc24dc2"), looks := false }, kinds := [], alts := [], laidByText := true, laidKinds := [.data, .pinned], laidTests := true, laidLooks := .later }
def QuotingStatesCardSaid : Prop := Claim7.holds Tryd.pinned (.plain (OpenSpec.ofChange quotingStatesSpec)) quotingStatesCard

/-- THE TIED CARD OF 'quillwortlaw17.QuotingOn'. -/
def quotingOnCard : Claim7 := { stood := { row := quotingOnRow, standIns := [], harness := (true, "057e9c38a6b08ba0631060e67523f95741e01f5494a01d3264b2a0ef1bc24dc2"), looks := false }, kinds := [], alts := [], laidByText := true, laidKinds := [.data, .pinned], laidTests := true, laidLooks := .later }
def QuotingOnCardSaid : Prop := Claim7.holds Tryd.pinned (.plain (OpenSpec.ofChange quotingOnSpec)) quotingOnCard

/-- THE TIED CARD OF 'quillwortlaw17.QuotingMeans'. -/
def quotingMeansCard : Claim7 := { stood := { row := quotingMeansRow, standIns := [], harness := (true, "057e9c38a6b08ba0631060e67523f95741e01f5494a01d3264b2a0ef1bc24dc2"), looks := false }, kinds := [], alts := [], laidByText := true, laidKinds := [.data, .pinned], laidTests := true, laidLooks := .later }
def QuotingMeansCardSaid : Prop := Claim7.holds Tryd.pinned (.plain (OpenSpec.ofChange quotingMeansSpec)) quotingMeansCard

/-- THE TIED CARD OF 'quillwortlaw17.QuotingLines'. -/
def quotingLinesCard : Claim7 := { stood := { row := quotingLinesRow, standIns := [], harness := (true, "057e9c38a6b08ba0631060e67523f95741e01f5494a01d3264b2a0ef1bc24dc2"), looks := false }, kinds := [], alts := [], laidByText := true, laidKinds := [.data, .pinned], laidTests := true, laidLooks := .later }
def QuotingLinesCardSaid : Prop := Claim7.holds Tryd.pinned (.plain (OpenSpec.ofChange quotingLinesSpec)) quotingLinesCard

/-- THE SECOND FORM's CARD OF 'quillwortlaw17.QuotingForms'. -/
def quotingFormsUptoCard : Claim7 := { stood := { row := quotingFormsUptoRow, standIns := [], harness := (true, "057e9c38a6b08ba0631060e67523f95741e01f5494a01d3264b2a0ef1bc24dc2"), looks := false }, kinds := [], alts := [], laidByText := true, laidKinds := [.data, .pinned], laidTests := true, laidLooks := .later }
def QuotingFormsUptoCardSaid : Prop := Claim7.holds Tryd.pinned (.plain (OpenSpec.upto quotingFormsSpec)) quotingFormsUptoCard

/-- THE SECOND FORM's CARD OF 'quillwortlaw17.QuotingWord'. -/
def quotingWordUptoCard : Claim7 := { stood := { row := quotingWordUptoRow, standIns := [], harness := (true, "057e9c38a6b08ba0631060e67523f95741e01f5494a01d3264b2a0ef1bc24dc2"), looks := false }, kinds := [], alts := [], laidByText := true, laidKinds := [.data, .pinned], laidTests := true, laidLooks := .later }
def QuotingWordUptoCardSaid : Prop := Claim7.holds Tryd.pinned (.plain (OpenSpec.upto quotingWordSpec)) quotingWordUptoCard

/-- THE SECOND FORM's CARD OF 'quillwortlaw17.QuotingStates'. -/
def quotingStatesUptoCard : Claim7 := { stood := { row := quotingStatesUptoRow, standIns := [], harness := (true, "057e9c38a6b08ba0631060e67523f95741e01f5494a01d3264b2a0ef1bc24dc2"), looks := false }, kinds := [], alts := [], laidByText := true, laidKinds := [.data, .pinned], laidTests := true, laidLooks := .later }
def QuotingStatesUptoCardSaid : Prop := Claim7.holds Tryd.pinned (.plain (OpenSpec.upto quotingStatesSpec)) quotingStatesUptoCard

/-- THE SECOND FORM's CARD OF 'quillwortlaw17.QuotingOn'. -/
def quotingOnUptoCard : Claim7 := { stood := { row := quotingOnUptoRow, standIns := [], harness := (true, "057e9c38a6b08ba0631060e67523f95741e01f5494a01d3264b2a0ef1bc24dc2"), looks := false }, kinds := [], alts := [], laidByText := true, laidKinds := [.data, .pinned], laidTests := true, laidLooks := .later }
def QuotingOnUptoCardSaid : Prop := Claim7.holds Tryd.pinned (.plain (OpenSpec.upto quotingOnSpec)) quotingOnUptoCard

/-- THE SECOND FORM's CARD OF 'quillwortlaw17.QuotingMeans'. -/
def quotingMeansUptoCard : Claim7 := { stood := { row := quotingMeansUptoRow, standIns := [], harness := (true, "057e9c38a6b08ba0631060e67523f95741e01f5494a01d3264b2a0ef1bc24dc2"), looks := false }, kinds := [], alts := [], laidByText := true, laidKinds := [.data, .pinned], laidTests := true, laidLooks := .later }
def QuotingMeansUptoCardSaid : Prop := Claim7.holds Tryd.pinned (.plain (OpenSpec.upto quotingMeansSpec)) quotingMeansUptoCard

/-- THE SECOND FORM's CARD OF 'quillwortlaw17.QuotingLines'. -/
def quotingLinesUptoCard : Claim7 := { stood := { row := quotingLinesUptoRow, standIns := [], harness := (true, "057e9c38a6b08ba0631060e67523f95741e01f5494a01d3264b2a0ef1bc24dc2"), looks := false }, kinds := [], alts := [], laidByText := true, laidKinds := [.data, .pinned], laidTests := true, laidLooks := .later }
def QuotingLinesUptoCardSaid : Prop := Claim7.holds Tryd.pinned (.plain (OpenSpec.upto quotingLinesSpec)) quotingLinesUptoCard
end Rows
end Go.Proofs.YtadlaaddpobhbaaDoor
