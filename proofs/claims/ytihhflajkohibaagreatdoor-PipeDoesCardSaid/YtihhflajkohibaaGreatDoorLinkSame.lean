/- Layers 9 and 10: stands for LinkSame in a seat where the law of layer 9 is not: all of it lies in FrVec. No theorem of its own. -/
import Derived.Test.YtihhflajkohibaaGreatDoorFrVec
namespace Go.Proofs.YtihhflajkohibaaGreatDoor.Link
set_option linter.unusedSimpArgs false
set_option linter.unusedVariables false
set_option maxRecDepth 100000
end Go.Proofs.YtihhflajkohibaaGreatDoor.Link
