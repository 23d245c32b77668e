/-
  DERIVED. GIVEN WITH THE SEED: THE CARDS: each row of YtihhflajkohibaaDoorRows.lean that lists a variable, with what it lists TIED to the program's text (the seventh form; the later family's looks); each row that meets fmt, with fmt's text TOLD by the authors' own Lean function (tested against real Go, not proved from fmt's source: count such statements apart). THE CARD IS WHAT COUNTS. Prove the row's statement (the work); the ties are given (YtihhflajkohibaaDoorTie.lean); close each card by the builder's one call (the guide's Derived/Test/ToyasCard.lean, 'card_holds'). Laid BY PROGRAM, IN A SANDBOX (cutbox-door.mjs). By AI agents, Wed Nov 11 2026. No macro, syntax, notation, axiom, sorry.
-/
import Derived.Test.YtihhflajkohibaaDoorRows
import GoSem.ClaimSeven
namespace Go.Proofs.YtihhflajkohibaaDoor
namespace Rows

/-- THE TIED CARD OF 'narthexlaw10.PipeOnce'. -/
def pipeOnceCard : Claim7 := { stood := { row := pipeOnceRow, standIns := [], harness := (true, "6e47bf1cbecf0c4fdde4babade9c093e5a189f4613e49bca1b8e9fcf8a2b95af"), looks := true }, kinds := [], alts := [], laidByText := true, laidKinds := [.data, .handle], laidTests := true, laidLooks := .later }
def PipeOnceCardSaid : Prop := Claim7.holds Tryd.pinned (.plain (OpenSpec.ofChange pipeOnceSpec)) pipeOnceCard

/-- THE TIED CARD OF 'narthexlaw10.PipeAll'. -/
def pipeAllCard : Claim7 := { stood := { row := pipeAllRow, standIns := [], harness := (true, "6e47bf1cbecf0c4fdde4babade9c093e5a189f4613e49bca1b8e9fcf8a2b95af"), looks := true }, kinds := [], alts := [], laidByText := true, laidKinds := [.data, .handle], laidTests := true, laidLooks := .later }
def PipeAllCardSaid : Prop := Claim7.holds Tryd.pinned (.plain (OpenSpec.ofChange pipeAllSpec)) pipeAllCard

/-- THE TIED CARD OF 'narthexlaw10.PipeTurned'. -/
def pipeTurnedCard : Claim7 := { stood := { row := pipeTurnedRow, standIns := [], harness := (true, "6e47bf1cbecf0c4fdde4babade9c093e5a189f4613e49bca1b8e9fcf8a2b95af"), looks := true }, kinds := [], alts := [], laidByText := true, laidKinds := [.data, .handle], laidTests := true, laidLooks := .later }
def PipeTurnedCardSaid : Prop := Claim7.holds Tryd.pinned (.plain (OpenSpec.ofChange pipeTurnedSpec)) pipeTurnedCard

/-- THE TIED CARD OF 'narthexlaw10.PipeSides'. -/
def pipeSidesCard : Claim7 := { stood := { row := pipeSidesRow, standIns := [], harness := (true, "6e47bf1cbecf0c4fdde4babade9c093e5a189f4613e49bca1b8e9fcf8a2b95af"), looks := true }, kinds := [], alts := [], laidByText := true, laidKinds := [.data, .handle], laidTests := true, laidLooks := .later }
def PipeSidesCardSaid : Prop := Claim7.holds Tryd.pinned (.plain (OpenSpec.ofChange pipeSidesSpec)) pipeSidesCard

/-- THE TIED CARD OF 'narthexlaw10.PipeGoes'. -/
def pipeGoesCard : Claim7 := { stood := { row := pipeGoesRow, standIns := [], harness := (true, "6e47bf1cbecf0c4fdde4babade9c093e5a189f4613e49bca1b8e9fcf8a2b95af"), looks := true }, kinds := [], alts := [], laidByText := true, laidKinds := [.data, .handle], laidTests := true, laidLooks := .later }
def PipeGoesCardSaid : Prop := Claim7.holds Tryd.pinned (.plain (OpenSpec.ofChange pipeGoesSpec)) pipeGoesCard

/-- THE SECOND FORM's CARD OF 'narthexlaw10.PipeOnce'. -/
def pipeOnceUptoCard : Claim7 := { stood := { row := pipeOnceUptoRow, standIns := [], harness := (true, "6e47bf1cbecf0c4fdde4babade9c093e5a189f4613e49bca1b8e9fcf8a2b95af"), looks := true }, kinds := [], alts := [], laidByText := true, laidKinds := [.data, .handle], laidTests := true, laidLooks := .later }
def PipeOnceUptoCardSaid : Prop := Claim7.holds Tryd.pinned (.plain (OpenSpec.upto pipeOnceSpec)) pipeOnceUptoCard

/-- THE SECOND FORM's CARD OF 'narthexlaw10.PipeAll'. -/
def pipeAllUptoCard : Claim7 := { stood := { row := pipeAllUptoRow, standIns := [], harness := (true, "6e47bf1cbecf0c4fdde4babade9c093e5a189f4613e49bca1b8e9fcf8a2b95af"), looks := true }, kinds := [], alts := [], laidByText := true, laidKinds := [.data, .handle], laidTests := true, laidLooks := .later }
def PipeAllUptoCardSaid : Prop := Claim7.holds Tryd.pinned (.plain (OpenSpec.upto pipeAllSpec)) pipeAllUptoCard

/-- THE SECOND FORM's CARD OF 'narthexlaw10.PipeTurned'. -/
def pipeTurnedUptoCard : Claim7 := { stood := { row := pipeTurnedUptoRow, standIns := [], harness := (true, "6e47bf1cbecf0c4fdde4babade9c093e5a189f4613e49bca1b8e9fcf8a2b95af"), looks := true }, kinds := [], alts := [], laidByText := true, laidKinds := [.data, .handle], laidTests := true, laidLooks := .later }
def PipeTurnedUptoCardSaid : Prop := Claim7.holds Tryd.pinned (.plain (OpenSpec.upto pipeTurnedSpec)) pipeTurnedUptoCard

/-- THE SECOND FORM's CARD OF 'narthexlaw10.PipeSides'. -/
def pipeSidesUptoCard : Claim7 := { stood := { row := pipeSidesUptoRow, standIns := [], harness := (true, "6e47bf1cbecf0c4fdde4babade9c093e5a189f4613e49bca1b8e9fcf8a2b95af"), looks := true }, kinds := [], alts := [], laidByText := true, laidKinds := [.data, .handle], laidTests := true, laidLooks := .later }
def PipeSidesUptoCardSaid : Prop := Claim7.holds Tryd.pinned (.plain (OpenSpec.upto pipeSidesSpec)) pipeSidesUptoCard

/-- THE SECOND FORM's CARD OF 'narthexlaw10.PipeGoes'. -/
def pipeGoesUptoCard : Claim7 := { stood := { row := pipeGoesUptoRow, standIns := [], harness := (true, "6e47bf1cbecf0c4fdde4babade9c093e5a189f4613e49bca1b8e9fcf8a2b95af"), looks := true }, kinds := [], alts := [], laidByText := true, laidKinds := [.data, .handle], laidTests := true, laidLooks := .later }
def PipeGoesUptoCardSaid : Prop := Claim7.holds Tryd.pinned (.plain (OpenSpec.upto pipeGoesSpec)) pipeGoesUptoCard
end Rows
end Go.Proofs.YtihhflajkohibaaDoor
