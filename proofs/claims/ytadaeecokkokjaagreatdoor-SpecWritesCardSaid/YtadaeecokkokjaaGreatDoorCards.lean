/-
  DERIVED. GIVEN WITH THE SEED: THE CARDS: each row of YtadaeecokkokjaaGreatDoorRows.lean that lists a variable, with what it lists TIED to the program's text (the seventh form; the later family's looks); each row that meets fmt, with fmt's text TOLD by the authors' own Lean function (tested against real Go, not proved from fmt's source: count such statements apart). THE CARD IS WHAT COUNTS. Prove the row's statement (the work); the ties are given (YtadaeecokkokjaaGreatDoorTie.lean); close each card by the builder's one call (the guide's Derived/Test/ToyasCard.lean, 'card_holds'). Laid BY PROGRAM, IN A SANDBOX (cutbox-door.mjs). By AI agents, Wed Nov 11 2026. No macro, syntax, notation, axiom, sorry.
-/
import Derived.Test.YtadaeecokkokjaaGreatDoorRows
import GoSem.ClaimSeven
namespace Go.Proofs.YtadaeecokkokjaaGreatDoor
namespace Rows

/-- THE TIED CARD OF 'quillwortlaw20.SpecWrites'. -/
def specWritesCard : Claim7 := { stood := { row := specWritesRow, standIns := [], harness := (true, "24fa7b0d7b512d6252387f84829989a17687206256052198f427cc488dc975fa"), looks := false }, kinds := [], alts := [], laidByText := true, laidKinds := [.data, .pinned], laidTests := true, laidLooks := .later }
def SpecWritesCardSaid : Prop := Claim7.holds Tryz.pinned (.plain (OpenSpec.ofChange specWritesSpec)) specWritesCard

/-- THE TIED CARD OF 'quillwortlaw20.SpecBack'. -/
def specBackCard : Claim7 := { stood := { row := specBackRow, standIns := [], harness := (true, "24fa7b0d7b512d6252387f84829989a17687206256052198f427cc488dc975fa"), looks := false }, kinds := [], alts := [], laidByText := true, laidKinds := [.data, .pinned], laidTests := true, laidLooks := .later }
def SpecBackCardSaid : Prop := Claim7.holds Tryz.pinned (.plain (OpenSpec.ofChange specBackSpec)) specBackCard

/-- THE SECOND FORM's CARD OF 'quillwortlaw20.SpecWrites'. -/
def specWritesUptoCard : Claim7 := { stood := { row := specWritesUptoRow, standIns := [], harness := (true, "24fa7b0d7b512d6252387f84829989a17687206256052198f427cc488dc975fa"), looks := false }, kinds := [], alts := [], laidByText := true, laidKinds := [.data, .pinned], laidTests := true, laidLooks := .later }
def SpecWritesUptoCardSaid : Prop := Claim7.holds Tryz.pinned (.plain (OpenSpec.upto specWritesSpec)) specWritesUptoCard

/-- THE SECOND FORM's CARD OF 'quillwortlaw20.SpecBack'. -/
def specBackUptoCard : Claim7 := { stood := { row := specBackUptoRow, standIns := [], harness := (true, "24fa7b0d7b512d6252387f84829989a17687206256052198f427cc488dc975fa"), looks := false }, kinds := [], alts := [], laidByText := true, laidKinds := [.data, .pinned], laidTests := true, laidLooks := .later }
def SpecBackUptoCardSaid : Prop := Claim7.holds Tryz.pinned (.plain (OpenSpec.upto specBackSpec)) specBackUptoCard
end Rows
end Go.Proofs.YtadaeecokkokjaaGreatDoor
