/-
  DERIVED. GIVEN WITH THE SEED: THE CARDS: each row of YtihhflajkohibaaGreatDoorRows.lean that lists a variable, with what it lists TIED to the program's text (the seventh form; the later family's looks); each row that meets fmt, with fmt's text TOLD by the authors' own Lean function (tested against real Go, not proved from fmt's source: count such statements apart). THE CARD IS WHAT COUNTS. Prove the row's statement (the work); the ties are given (YtihhflajkohibaaGreatDoorTie.lean); close each card by the builder's one call (the guide's Derived/Test/ToyasCard.lean, 'card_holds'). Laid BY PROGRAM, IN A SANDBOX (cutbox-door.mjs). By AI agents, Wed Nov 11 2026. No macro, syntax, notation, axiom, sorry.
-/
import Derived.Test.YtihhflajkohibaaGreatDoorRows
import GoSem.ClaimSeven
namespace Go.Proofs.YtihhflajkohibaaGreatDoor
namespace Rows

/-- THE TIED CARD OF 'narthexlaw10.PipeDoes'. -/
def pipeDoesCard : Claim7 := { stood := { row := pipeDoesRow, standIns := [], harness := (true, "d9890dc8ee7ddb5864397d26b52fb44d8a066685c0021d115558e2365574e483"), looks := true }, kinds := [], alts := [], laidByText := true, laidKinds := [.data, .handle], laidTests := true, laidLooks := .later }
def PipeDoesCardSaid : Prop := Claim7.holds Tryz.pinned (.plain (OpenSpec.ofChange pipeDoesSpec)) pipeDoesCard

/-- THE SECOND FORM's CARD OF 'narthexlaw10.PipeDoes'. -/
def pipeDoesUptoCard : Claim7 := { stood := { row := pipeDoesUptoRow, standIns := [], harness := (true, "d9890dc8ee7ddb5864397d26b52fb44d8a066685c0021d115558e2365574e483"), looks := true }, kinds := [], alts := [], laidByText := true, laidKinds := [.data, .handle], laidTests := true, laidLooks := .later }
def PipeDoesUptoCardSaid : Prop := Claim7.holds Tryz.pinned (.plain (OpenSpec.upto pipeDoesSpec)) pipeDoesUptoCard
end Rows
end Go.Proofs.YtihhflajkohibaaGreatDoor
