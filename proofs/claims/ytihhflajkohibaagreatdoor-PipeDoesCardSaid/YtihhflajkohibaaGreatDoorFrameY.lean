/- Layer 6: the statements' awake returns true. Conditions: the table of layer 5 and the variable of package errors are laid. -/
import Derived.Test.YtihhflajkohibaaGreatDoorFrameX
namespace Go.Proofs.YtihhflajkohibaaGreatDoor.Frame
set_option linter.unusedSimpArgs false
set_option linter.unusedVariables false
set_option maxRecDepth 100000
open Go.RowKit
open Go.Proofs.YtihhflajkohibaaGreatDoor
open Go.Proofs.YtihhflajkohibaaGreatDoor.Link (Fr right_is right_any frBox bcell ret_bool empty_size)

/-- Put of a frame that may be -/
theorem Put_is (f : Fr) (S : ByteArray) (hr : f.right = true) (hf : Fits f) (hS : S = ⟨(put f).toArray⟩) (w : World) (ht : TabAt w) : Calls Tryz.prog 39 #[f.val] w fun e w' => e = .returned (.tuple #[.string S, .int .i64 0]) ∧ Below w.heap.size w w' := by
  subst hS
  obtain ⟨q0, q1, q2, q3⟩ := right_iff.1 hr
  obtain ⟨k, ep, sq, ak, b⟩ := f
  have a0 := hf.s0
  have a1 := hf.a0
  simp only at q0 q1 q2 q3 a0 a1
  obtain ⟨k, rfl⟩ := Int.eq_ofNat_of_zero_le (show 0 ≤ k by omega)
  obtain ⟨ep, rfl⟩ := Int.eq_ofNat_of_zero_le q0
  obtain ⟨sq, rfl⟩ := Int.eq_ofNat_of_zero_le a0
  obtain ⟨ak, rfl⟩ := Int.eq_ofNat_of_zero_le a1
  exact put_yes k ep sq ak b w hr ht
theorem Put_no (f : Fr) (hr : f.right = false) (w : World) : Calls Tryz.prog 39 #[f.val] w fun e w' => e = .returned (.tuple #[.string ⟨#[]⟩, .int .i64 60]) ∧ Below w.heap.size w w' := by
  obtain ⟨k, ep, sq, ak, b⟩ := f
  exact put_no k ep sq ak b w hr
theorem refPut_is (f : Fr) (S : ByteArray) (hr : f.right = true) (hf : Fits f) (hS : S = ⟨(put f).toArray⟩) (w : World) : Calls Tryz.prog 44 #[f.val] w fun e w' => e = .returned (.string S) ∧ Below w.heap.size w w' := by
  subst hS
  obtain ⟨q0, q1, q2, q3⟩ := right_iff.1 hr
  obtain ⟨k, ep, sq, ak, b⟩ := f
  have a0 := hf.s0
  have a1 := hf.a0
  have a2 := hf.s1
  have a3 := hf.a1
  simp only at q0 q1 q2 q3 a0 a1 a2 a3
  obtain ⟨k, rfl⟩ := Int.eq_ofNat_of_zero_le (show 0 ≤ k by omega)
  obtain ⟨ep, rfl⟩ := Int.eq_ofNat_of_zero_le q0
  obtain ⟨sq, rfl⟩ := Int.eq_ofNat_of_zero_le a0
  obtain ⟨ak, rfl⟩ := Int.eq_ofNat_of_zero_le a1
  exact refPut_any k ep sq ak b w hr (by omega) (by omega)
theorem Get_is (s : ByteArray) (f : Fr) (n : Int) (w : World) (hs : s.size ≤ maxLen) (hf : f = get s.data.toList) (hn : n = (why s.data.toList).2) (ht : TabAt w) (hg : ErrAt w) : Calls Tryz.prog 48 #[.string s] w fun e w' => e = .returned (.tuple #[f.val, .int .i64 n]) ∧ Below w.heap.size w w' := by
  subst hf hn; exact Get_any s w hs ht hg
/-- the chapter's example -/
def f0 : Fr := ⟨2, 1, 0, 2, ⟨#[]⟩⟩
theorem same_f0 : frSame f0 f0 = true := frSame_iff.2 rfl
theorem f0_val : f0.val = .agg #[.int .i64 2, .int .i64 1, .int .u64 0, .int .u64 2, .string ⟨#[]⟩] := rfl
theorem slice_to {P : Program} {t : TypeId} (ht : P.underlying t = some .string) (s : ByteArray) (j : Nat) (hj : j ≤ s.size) (w : World) :
    (Instr.slice t (.string s) Option.none (some (.int .i64 (j : Int))) Option.none).run P w = .ok (.string (s.extract 0 j)) w := by
  rw [run_slice_string_to_if w t s .i64 _ ht, if_pos ⟨by omega, by omega⟩]; rfl
end Go.Proofs.YtihhflajkohibaaGreatDoor.Frame
