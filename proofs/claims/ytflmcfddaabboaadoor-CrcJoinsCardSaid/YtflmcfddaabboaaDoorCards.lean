/-
  DERIVED. GIVEN WITH THE SEED: THE CARDS: each row of YtflmcfddaabboaaDoorRows.lean that lists a variable, with what it lists TIED to the program's text (the seventh form; the later family's looks); each row that meets fmt, with fmt's text TOLD by the authors' own Lean function (tested against real Go, not proved from fmt's source: count such statements apart). THE CARD IS WHAT COUNTS. Prove the row's statement (the work); the ties are given (YtflmcfddaabboaaDoorTie.lean); close each card by the builder's one call (the guide's Derived/Test/ToyasCard.lean, 'card_holds'). Laid BY PROGRAM, IN A SANDBOX (cutbox-door.mjs). By AI agents, Wed Nov 11 2026. No macro, syntax, notation, axiom, sorry.
-/
import Derived.Test.YtflmcfddaabboaaDoorRows
import GoSem.ClaimSeven
namespace Go.Proofs.YtflmcfddaabboaaDoor
namespace Rows

/-- THE TIED CARD OF 'narthexlaw05.CrcSums'. -/
def crcSumsCard : Claim7 := { stood := { row := crcSumsRow, standIns := [], harness := (true, "d0163bfbd2442d2bea81cd79d69dd66cf59ca4a0f99f40ab19d6587445fc46f1"), looks := false }, kinds := [], alts := [], laidByText := true, laidKinds := [.data], laidTests := true, laidLooks := .later }
def CrcSumsCardSaid : Prop := Claim7.holds Tryd.pinned (.plain (OpenSpec.ofChange crcSumsSpec)) crcSumsCard

/-- THE TIED CARD OF 'narthexlaw05.CrcJoins'. -/
def crcJoinsCard : Claim7 := { stood := { row := crcJoinsRow, standIns := [], harness := (true, "d0163bfbd2442d2bea81cd79d69dd66cf59ca4a0f99f40ab19d6587445fc46f1"), looks := false }, kinds := [], alts := [], laidByText := true, laidKinds := [.data], laidTests := true, laidLooks := .later }
def CrcJoinsCardSaid : Prop := Claim7.holds Tryd.pinned (.plain (OpenSpec.ofChange crcJoinsSpec)) crcJoinsCard

/-- THE TIED CARD OF 'narthexlaw05.CrcTurned'. -/
def crcTurnedCard : Claim7 := { stood := { row := crcTurnedRow, standIns := [], harness := (true, "d0163bfbd2442d2bea81cd79d69dd66cf59ca4a0f99f40ab19d6587445fc46f1"), looks := false }, kinds := [], alts := [], laidByText := true, laidKinds := [.data], laidTests := true, laidLooks := .later }
def CrcTurnedCardSaid : Prop := Claim7.holds Tryd.pinned (.plain (OpenSpec.ofChange crcTurnedSpec)) crcTurnedCard

/-- THE TIED CARD OF 'narthexlaw05.CrcMixes'. -/
def crcMixesCard : Claim7 := { stood := { row := crcMixesRow, standIns := [], harness := (true, "d0163bfbd2442d2bea81cd79d69dd66cf59ca4a0f99f40ab19d6587445fc46f1"), looks := false }, kinds := [], alts := [], laidByText := true, laidKinds := [.data], laidTests := true, laidLooks := .later }
def CrcMixesCardSaid : Prop := Claim7.holds Tryd.pinned (.plain (OpenSpec.ofChange crcMixesSpec)) crcMixesCard

/-- THE TIED CARD OF 'narthexlaw05.CrcGood'. -/
def crcGoodCard : Claim7 := { stood := { row := crcGoodRow, standIns := [], harness := (true, "d0163bfbd2442d2bea81cd79d69dd66cf59ca4a0f99f40ab19d6587445fc46f1"), looks := false }, kinds := [], alts := [], laidByText := true, laidKinds := [.data], laidTests := true, laidLooks := .later }
def CrcGoodCardSaid : Prop := Claim7.holds Tryd.pinned (.plain (OpenSpec.ofChange crcGoodSpec)) crcGoodCard

/-- THE TIED CARD OF 'narthexlaw05.CrcTails'. -/
def crcTailsCard : Claim7 := { stood := { row := crcTailsRow, standIns := [], harness := (true, "d0163bfbd2442d2bea81cd79d69dd66cf59ca4a0f99f40ab19d6587445fc46f1"), looks := false }, kinds := [], alts := [], laidByText := true, laidKinds := [.data], laidTests := true, laidLooks := .later }
def CrcTailsCardSaid : Prop := Claim7.holds Tryd.pinned (.plain (OpenSpec.ofChange crcTailsSpec)) crcTailsCard

/-- THE SECOND FORM's CARD OF 'narthexlaw05.CrcSums'. -/
def crcSumsUptoCard : Claim7 := { stood := { row := crcSumsUptoRow, standIns := [], harness := (true, "d0163bfbd2442d2bea81cd79d69dd66cf59ca4a0f99f40ab19d6587445fc46f1"), looks := false }, kinds := [], alts := [], laidByText := true, laidKinds := [.data], laidTests := true, laidLooks := .later }
def CrcSumsUptoCardSaid : Prop := Claim7.holds Tryd.pinned (.plain (OpenSpec.upto crcSumsSpec)) crcSumsUptoCard

/-- THE SECOND FORM's CARD OF 'narthexlaw05.CrcJoins'. -/
def crcJoinsUptoCard : Claim7 := { stood := { row := crcJoinsUptoRow, standIns := [], harness := (true, "d0163bfbd2442d2bea81cd79d69dd66cf59ca4a0f99f40ab19d6587445fc46f1"), looks := false }, kinds := [], alts := [], laidByText := true, laidKinds := [.data], laidTests := true, laidLooks := .later }
def CrcJoinsUptoCardSaid : Prop := Claim7.holds Tryd.pinned (.plain (OpenSpec.upto crcJoinsSpec)) crcJoinsUptoCard

/-- THE SECOND FORM's CARD OF 'narthexlaw05.CrcTurned'. -/
def crcTurnedUptoCard : Claim7 := { stood := { row := crcTurnedUptoRow, standIns := [], harness := (true, "d0163bfbd2442d2bea81cd79d69dd66cf59ca4a0f99f40ab19d6587445fc46f1"), looks := false }, kinds := [], alts := [], laidByText := true, laidKinds := [.data], laidTests := true, laidLooks := .later }
def CrcTurnedUptoCardSaid : Prop := Claim7.holds Tryd.pinned (.plain (OpenSpec.upto crcTurnedSpec)) crcTurnedUptoCard

/-- THE SECOND FORM's CARD OF 'narthexlaw05.CrcMixes'. -/
def crcMixesUptoCard : Claim7 := { stood := { row := crcMixesUptoRow, standIns := [], harness := (true, "d0163bfbd2442d2bea81cd79d69dd66cf59ca4a0f99f40ab19d6587445fc46f1"), looks := false }, kinds := [], alts := [], laidByText := true, laidKinds := [.data], laidTests := true, laidLooks := .later }
def CrcMixesUptoCardSaid : Prop := Claim7.holds Tryd.pinned (.plain (OpenSpec.upto crcMixesSpec)) crcMixesUptoCard

/-- THE SECOND FORM's CARD OF 'narthexlaw05.CrcGood'. -/
def crcGoodUptoCard : Claim7 := { stood := { row := crcGoodUptoRow, standIns := [], harness := (true, "d0163bfbd2442d2bea81cd79d69dd66cf59ca4a0f99f40ab19d6587445fc46f1"), looks := false }, kinds := [], alts := [], laidByText := true, laidKinds := [.data], laidTests := true, laidLooks := .later }
def CrcGoodUptoCardSaid : Prop := Claim7.holds Tryd.pinned (.plain (OpenSpec.upto crcGoodSpec)) crcGoodUptoCard

/-- THE SECOND FORM's CARD OF 'narthexlaw05.CrcTails'. -/
def crcTailsUptoCard : Claim7 := { stood := { row := crcTailsUptoRow, standIns := [], harness := (true, "d0163bfbd2442d2bea81cd79d69dd66cf59ca4a0f99f40ab19d6587445fc46f1"), looks := false }, kinds := [], alts := [], laidByText := true, laidKinds := [.data], laidTests := true, laidLooks := .later }
def CrcTailsUptoCardSaid : Prop := Claim7.holds Tryd.pinned (.plain (OpenSpec.upto crcTailsSpec)) crcTailsUptoCard
end Rows
end Go.Proofs.YtflmcfddaabboaaDoor
