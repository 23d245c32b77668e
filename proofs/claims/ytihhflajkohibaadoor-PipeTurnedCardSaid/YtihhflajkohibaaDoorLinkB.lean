/- Layer 9: what taking a frame does to an end in memory. Conditions: the end lies (EndIs), and is one that may be (Ok). -/
import Derived.Test.YtihhflajkohibaaDoorLinkA
import Derived.Test.YtihhflajkohibaaDoorFrRight
import Derived.Deep.RegionWith
import Derived.Deep.RegionHeld3
import Derived.Deep.QuietTactic
import Derived.Outline
import Derived.Deep.DeepCutAuto
import Derived.Deep.CutBlock
import Derived.BigQuiet
import Derived.Lib.Strings
namespace Go.Proofs.YtihhflajkohibaaDoor.Link
set_option linter.unusedSimpArgs false
set_option linter.unusedVariables false
set_option maxRecDepth 100000
open Go.RowKit
section
variable {w : World} {p : Nat} {F : List Nat} {x : LE}
set_option maxHeartbeats 2000000 in
theorem take_no (h : EndIs w p F x) (f : Fr) (hf : x.fits f = false) :
    Calls Tryd.prog 35 #[.pointer (some ⟨p, 0, none⟩), f.val] w fun e w' => e = .returned (.tuple #[.string ⟨#[]⟩, .bool false]) ∧ Below w.heap.size w w' := by
  obtain ⟨A, c, G, rfl, hn, hst, hv⟩ := h.lies
  have hpl := lt_of_block hst
  have hpl1 : p < w.heap.size + 1 := by omega
  have c0 := cell_of_block hst 0
  simp [ends] at c0
  have hfv : ∀ v, f.right = v → Fr.right ⟨f.kind, f.epoch, f.seq, f.ack, f.body⟩ = v := fun v h => h
  unfold LE.fits at hf
  cases hr : f.right
  · have HR := Lib.hid hr
    clear hr hf hfv
    obtain ⟨k, ep, sq, ak, b⟩ := f
    unfold Fr.val
    go_enter Tryd.func35, Tryd.ntmps35
    go_wp2_with fail
    first | (go_region_with ((go_at_call 47; refine (right_is ⟨k, ep, sq, ak, b⟩ false HR.out _).mono ?_; rintro e w1 ⟨rfl, hb⟩))) | (trace "no")
    all_goals
      go_wp2
      go_ret2
      exact ⟨rfl, ((below_drewN (Below.refl w.heap.size w) 1).alloc (Nat.le_refl _) _).trans (hb.mono (by simp))⟩
  · rw [hr] at hf
    have hne : f.epoch ≠ x.epoch := by simpa using hf
    have HR := Lib.hid hr
    clear hr hf hfv
    obtain ⟨k, ep, sq, ak, b⟩ := f
    unfold Fr.val
    have hd : (ep == x.epoch) = false := beq_eq_false_iff_ne.2 hne
    have hd2 : (ep != x.epoch) = true := bne_iff_ne.2 hne
    go_enter Tryd.func35, Tryd.ntmps35
    go_wp2_with fail
    go_region_held3 (fun w' => w'.cell? ⟨p, 0, none⟩ = some (.int .i64 x.epoch) ∧ w'.cell? ⟨w.heap.size, 0, none⟩ = some (.int .i64 k) ∧ w'.cell? ⟨w.heap.size, 1, none⟩ = some (.int .i64 ep) ∧ w'.cell? ⟨w.heap.size, 2, none⟩ = some (.int .u64 sq) ∧ w'.cell? ⟨w.heap.size, 3, none⟩ = some (.int .u64 ak) ∧ w'.cell? ⟨w.heap.size, 4, none⟩ = some (.string b)) (go_keep) ((go_at_call 47; refine (right_is ⟨k, ep, sq, ak, b⟩ true HR.out _).mono ?_; rintro e w1 ⟨rfl, hb⟩; obtain ⟨hcc, _⟩ := bcell hb))
    all_goals
      go_wp2
      go_ret2
      exact ⟨rfl, ((below_drewN (Below.refl w.heap.size w) 1).alloc (Nat.le_refl _) _).trans (hb.mono (by simp))⟩
end
end Go.Proofs.YtihhflajkohibaaDoor.Link
