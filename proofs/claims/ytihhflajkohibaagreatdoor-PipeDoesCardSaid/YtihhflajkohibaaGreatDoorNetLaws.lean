/- Layer 8 in a seat where the law of layer 8 is not: stands for NetLaws. -/
import Derived.Test.YtihhflajkohibaaGreatDoorNetFlip
import Derived.Test.YtihhflajkohibaaGreatDoorFrVec
import Derived.Test.YtihhflajkohibaaGreatDoorOpenAny
namespace Go.Proofs.YtihhflajkohibaaGreatDoor.Net
set_option linter.unusedSimpArgs false
set_option linter.unusedVariables false
set_option maxRecDepth 100000
theorem turn_data (t : ByteArray) (bit : Int) : (NS.turn t bit).data.toList = t.data.toList.set (NS.place t.size bit / 8) ((t.data.toList.getD (NS.place t.size bit / 8) 0) ^^^ (1 <<< UInt8.ofNat (NS.place t.size bit % 8))) := by
  unfold NS.turn
  simp only [Array.toList_setIfInBounds]
  congr 2
  rw [Array.getD_eq_getD_getElem?, List.getD_eq_getElem?_getD, Array.getElem?_toList]
end Go.Proofs.YtihhflajkohibaaGreatDoor.Net
