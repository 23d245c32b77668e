/- Layer 6: the reference Put hands back a frame's bytes. Conditions: a frame that may be, numbers without sign. -/
import Derived.Test.YtihhflajkohibaaDoorFrameD
namespace Go.Proofs.YtihhflajkohibaaDoor.Frame
set_option linter.unusedSimpArgs false
set_option linter.unusedVariables false
set_option maxRecDepth 100000
open Go.RowKit
open Go.Proofs.YtihhflajkohibaaDoor
open Go.Proofs.YtihhflajkohibaaDoor.Link (Fr right_is right_any frBox bcell ret_bool empty_size)

theorem cat_size (a b : ByteArray) : (a ++ b).size = a.size + b.size := by simp
theorem ba_append (l m : List UInt8) : (⟨l.toArray⟩ : ByteArray) ++ ⟨m.toArray⟩ = ⟨(l ++ m).toArray⟩ := by apply ByteArray.ext; simp
theorem ba_size (l : List UInt8) : (⟨l.toArray⟩ : ByteArray).size = l.length := rfl
theorem ret_s {a b : ByteArray} (h : a = b) : Ending.returned (.string a) = .returned (.string b) := by rw [h]
end Go.Proofs.YtihhflajkohibaaDoor.Frame
