/-
  DERIVED. GIVEN WITH THE SEED: THE CARDS: each row of YtfmecpnokefokaaGreatDoorRows.lean that lists a variable, with what it lists TIED to the program's text (the seventh form; the later family's looks); each row that meets fmt, with fmt's text TOLD by the authors' own Lean function (tested against real Go, not proved from fmt's source: count such statements apart). THE CARD IS WHAT COUNTS. Prove the row's statement (the work); the ties are given (YtfmecpnokefokaaGreatDoorTie.lean); close each card by the builder's one call (the guide's Derived/Test/ToyasCard.lean, 'card_holds'). Laid BY PROGRAM, IN A SANDBOX (cutbox-door.mjs). By AI agents, Wed Nov 11 2026. No macro, syntax, notation, axiom, sorry.
-/
import Derived.Test.YtfmecpnokefokaaGreatDoorRows
import GoSem.ClaimSeven
namespace Go.Proofs.YtfmecpnokefokaaGreatDoor
namespace Rows

/-- THE TIED CARD OF 'quillwortlaw25.ExpandPieces'. -/
def expandPiecesCard : Claim7 := { stood := { row := expandPiecesRow, standIns := [], harness := (true, "76164432d84e02d02cc01d40d4abdba7f6c0eaabdf94d2c27d58352156b2a582"), looks := false }, kinds := [], alts := [], laidByText := true, laidKinds := [.data, .data, .data], laidTests := true, laidLooks := .later }
def ExpandPiecesCardSaid : Prop := Claim7.holds Tryz.pinned (.plain (OpenSpec.ofChange expandPiecesSpec)) expandPiecesCard

/-- THE TIED CARD OF 'quillwortlaw25.ExpandTexts'. -/
def expandTextsCard : Claim7 := { stood := { row := expandTextsRow, standIns := [], harness := (true, "76164432d84e02d02cc01d40d4abdba7f6c0eaabdf94d2c27d58352156b2a582"), looks := false }, kinds := [], alts := [], laidByText := true, laidKinds := [.data, .data, .data], laidTests := true, laidLooks := .later }
def ExpandTextsCardSaid : Prop := Claim7.holds Tryz.pinned (.plain (OpenSpec.ofChange expandTextsSpec)) expandTextsCard

/-- THE TIED CARD OF 'quillwortlaw25.ExpandDollar'. -/
def expandDollarCard : Claim7 := { stood := { row := expandDollarRow, standIns := [], harness := (true, "76164432d84e02d02cc01d40d4abdba7f6c0eaabdf94d2c27d58352156b2a582"), looks := false }, kinds := [], alts := [], laidByText := true, laidKinds := [.data, .data, .data], laidTests := true, laidLooks := .later }
def ExpandDollarCardSaid : Prop := Claim7.holds Tryz.pinned (.plain (OpenSpec.ofChange expandDollarSpec)) expandDollarCard

/-- THE TIED CARD OF 'quillwortlaw25.ExpandCuts'. -/
def expandCutsCard : Claim7 := { stood := { row := expandCutsRow, standIns := [], harness := (true, "76164432d84e02d02cc01d40d4abdba7f6c0eaabdf94d2c27d58352156b2a582"), looks := false }, kinds := [], alts := [], laidByText := true, laidKinds := [.data, .data, .data], laidTests := true, laidLooks := .later }
def ExpandCutsCardSaid : Prop := Claim7.holds Tryz.pinned (.plain (OpenSpec.ofChange expandCutsSpec)) expandCutsCard

/-- THE TIED CARD OF 'quillwortlaw25.ExpandLiteral'. -/
def expandLiteralCard : Claim7 := { stood := { row := expandLiteralRow, standIns := [], harness := (true, "76164432d84e02d02cc01d40d4abdba7f6c0eaabdf94d2c27d58352156b2a582"), looks := false }, kinds := [], alts := [], laidByText := true, laidKinds := [.data, .data, .data], laidTests := true, laidLooks := .later }
def ExpandLiteralCardSaid : Prop := Claim7.holds Tryz.pinned (.plain (OpenSpec.ofChange expandLiteralSpec)) expandLiteralCard

/-- THE TIED CARD OF 'quillwortlaw25.ExpandApplies'. -/
def expandAppliesCard : Claim7 := { stood := { row := expandAppliesRow, standIns := [], harness := (true, "76164432d84e02d02cc01d40d4abdba7f6c0eaabdf94d2c27d58352156b2a582"), looks := false }, kinds := [], alts := [], laidByText := true, laidKinds := [.data, .data, .data], laidTests := true, laidLooks := .later }
def ExpandAppliesCardSaid : Prop := Claim7.holds Tryz.pinned (.plain (OpenSpec.ofChange expandAppliesSpec)) expandAppliesCard

/-- THE TIED CARD OF 'quillwortlaw26.FieldsOf'. -/
def fieldsOfCard : Claim7 := { stood := { row := fieldsOfRow, standIns := [], harness := (true, "76164432d84e02d02cc01d40d4abdba7f6c0eaabdf94d2c27d58352156b2a582"), looks := false }, kinds := [], alts := [], laidByText := true, laidKinds := [.data, .data, .data], laidTests := true, laidLooks := .later }
def FieldsOfCardSaid : Prop := Claim7.holds Tryz.pinned (.plain (OpenSpec.ofChange fieldsOfSpec)) fieldsOfCard

/-- THE SECOND FORM's CARD OF 'quillwortlaw25.ExpandPieces'. -/
def expandPiecesUptoCard : Claim7 := { stood := { row := expandPiecesUptoRow, standIns := [], harness := (true, "76164432d84e02d02cc01d40d4abdba7f6c0eaabdf94d2c27d58352156b2a582"), looks := false }, kinds := [], alts := [], laidByText := true, laidKinds := [.data, .data, .data], laidTests := true, laidLooks := .later }
def ExpandPiecesUptoCardSaid : Prop := Claim7.holds Tryz.pinned (.plain (OpenSpec.upto expandPiecesSpec)) expandPiecesUptoCard

/-- THE SECOND FORM's CARD OF 'quillwortlaw25.ExpandTexts'. -/
def expandTextsUptoCard : Claim7 := { stood := { row := expandTextsUptoRow, standIns := [], harness := (true, "76164432d84e02d02cc01d40d4abdba7f6c0eaabdf94d2c27d58352156b2a582"), looks := false }, kinds := [], alts := [], laidByText := true, laidKinds := [.data, .data, .data], laidTests := true, laidLooks := .later }
def ExpandTextsUptoCardSaid : Prop := Claim7.holds Tryz.pinned (.plain (OpenSpec.upto expandTextsSpec)) expandTextsUptoCard

/-- THE SECOND FORM's CARD OF 'quillwortlaw25.ExpandDollar'. -/
def expandDollarUptoCard : Claim7 := { stood := { row := expandDollarUptoRow, standIns := [], harness := (true, "76164432d84e02d02cc01d40d4abdba7f6c0eaabdf94d2c27d58352156b2a582"), looks := false }, kinds := [], alts := [], laidByText := true, laidKinds := [.data, .data, .data], laidTests := true, laidLooks := .later }
def ExpandDollarUptoCardSaid : Prop := Claim7.holds Tryz.pinned (.plain (OpenSpec.upto expandDollarSpec)) expandDollarUptoCard

/-- THE SECOND FORM's CARD OF 'quillwortlaw25.ExpandCuts'. -/
def expandCutsUptoCard : Claim7 := { stood := { row := expandCutsUptoRow, standIns := [], harness := (true, "76164432d84e02d02cc01d40d4abdba7f6c0eaabdf94d2c27d58352156b2a582"), looks := false }, kinds := [], alts := [], laidByText := true, laidKinds := [.data, .data, .data], laidTests := true, laidLooks := .later }
def ExpandCutsUptoCardSaid : Prop := Claim7.holds Tryz.pinned (.plain (OpenSpec.upto expandCutsSpec)) expandCutsUptoCard

/-- THE SECOND FORM's CARD OF 'quillwortlaw25.ExpandLiteral'. -/
def expandLiteralUptoCard : Claim7 := { stood := { row := expandLiteralUptoRow, standIns := [], harness := (true, "76164432d84e02d02cc01d40d4abdba7f6c0eaabdf94d2c27d58352156b2a582"), looks := false }, kinds := [], alts := [], laidByText := true, laidKinds := [.data, .data, .data], laidTests := true, laidLooks := .later }
def ExpandLiteralUptoCardSaid : Prop := Claim7.holds Tryz.pinned (.plain (OpenSpec.upto expandLiteralSpec)) expandLiteralUptoCard

/-- THE SECOND FORM's CARD OF 'quillwortlaw25.ExpandApplies'. -/
def expandAppliesUptoCard : Claim7 := { stood := { row := expandAppliesUptoRow, standIns := [], harness := (true, "76164432d84e02d02cc01d40d4abdba7f6c0eaabdf94d2c27d58352156b2a582"), looks := false }, kinds := [], alts := [], laidByText := true, laidKinds := [.data, .data, .data], laidTests := true, laidLooks := .later }
def ExpandAppliesUptoCardSaid : Prop := Claim7.holds Tryz.pinned (.plain (OpenSpec.upto expandAppliesSpec)) expandAppliesUptoCard

/-- THE SECOND FORM's CARD OF 'quillwortlaw26.FieldsOf'. -/
def fieldsOfUptoCard : Claim7 := { stood := { row := fieldsOfUptoRow, standIns := [], harness := (true, "76164432d84e02d02cc01d40d4abdba7f6c0eaabdf94d2c27d58352156b2a582"), looks := false }, kinds := [], alts := [], laidByText := true, laidKinds := [.data, .data, .data], laidTests := true, laidLooks := .later }
def FieldsOfUptoCardSaid : Prop := Claim7.holds Tryz.pinned (.plain (OpenSpec.upto fieldsOfSpec)) fieldsOfUptoCard
end Rows
end Go.Proofs.YtfmecpnokefokaaGreatDoor
