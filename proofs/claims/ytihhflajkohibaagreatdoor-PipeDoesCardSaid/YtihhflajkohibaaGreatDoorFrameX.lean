/- Layer 6: Why answers as the plain why. Conditions: the table of layer 5 and the variable of package errors are laid. -/
import Derived.Test.YtihhflajkohibaaGreatDoorFrameW
namespace Go.Proofs.YtihhflajkohibaaGreatDoor.Frame
set_option linter.unusedSimpArgs false
set_option linter.unusedVariables false
set_option maxRecDepth 100000
open Go.RowKit
open Go.Proofs.YtihhflajkohibaaGreatDoor
open Go.Proofs.YtihhflajkohibaaGreatDoor.Link (Fr right_is right_any frBox bcell ret_bool empty_size)

/-- two frames, field by field -/
def frSame (f g : Fr) : Bool := f.kind == g.kind && f.epoch == g.epoch && f.seq == g.seq && f.ack == g.ack && f.body.toList == g.body.toList
theorem frSame_iff {f g : Fr} : frSame f g = true ↔ f = g := by
  obtain ⟨k, ep, sq, ak, b⟩ := f
  obtain ⟨k', ep', sq', ak', b'⟩ := g
  simp only [frSame, Bool.and_eq_true, beq_iff_eq, Fr.mk.injEq, and_assoc]
  have e : b.toList = b'.toList ↔ b = b' := ⟨fun h => by
    rw [Lib.toList_data, Lib.toList_data] at h
    apply ByteArray.ext; exact Array.toList_inj.1 h, fun h => by rw [h]⟩
  rw [e]
end Go.Proofs.YtihhflajkohibaaGreatDoor.Frame
