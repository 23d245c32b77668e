/- Layer 6: Right tells whether a frame may be; what all layers above say of frames as values. No conditions. -/
import Derived.Test.YtihhflajkohibaaGreatDoorRows
import Derived.Test.YtihhflajkohibaaGreatDoorLinkPlain
import Derived.Test.YtihhflajkohibaaGreatDoorMem
import Derived.Deep.RegionWith
import Derived.Deep.RegionHeld3
import Derived.Deep.QuietTactic
import Derived.Outline
import Derived.Deep.DeepCutAuto
import Derived.Deep.CutBlock
import Derived.BigQuiet
import Derived.Lib.Strings
namespace Go.Proofs.YtihhflajkohibaaGreatDoor.Link
set_option linter.unusedSimpArgs false
set_option linter.unusedVariables false
set_option maxRecDepth 100000
open Go.RowKit
def Fr.val (f : Fr) : Value := .agg #[.int .i64 f.kind, .int .i64 f.epoch, .int .u64 f.seq, .int .u64 f.ack, .string f.body]
theorem ret_bool {a b : Bool} (h : a = b) : Ending.returned (.bool a) = .returned (.bool b) := by rw [h]
theorem empty_size (b : ByteArray) : b.toList.isEmpty = decide (b.size = 0) := by
  have e : b.toList = b.data.toList := Lib.toList_data b
  rw [e, Bool.eq_iff_iff, List.isEmpty_iff, decide_eq_true_iff, ← List.length_eq_zero_iff, Array.length_toList]
  rfl
set_option maxHeartbeats 1000000 in
theorem right_any (f : Fr) (w : World) :
    Calls Tryz.prog 62 #[f.val] w fun e w' => e = .returned (.bool f.right) ∧ Below w.heap.size w w' := by
  obtain ⟨k, ep, sq, ak, b⟩ := f
  have hbl := (Below.refl w.heap.size w).alloc (Nat.le_refl _) (.cells #[.int .i64 k, .int .i64 ep, .int .u64 sq, .int .u64 ak, .string b] 83)
  have HBL := Lib.hid hbl
  have hsz := empty_size b
  clear hbl
  unfold Fr.val
  by_cases h1 : k = 1
  · subst h1
    by_cases h2 : 0 ≤ ep ∧ ep ≤ 65535 ∧ b.size ≤ 64
    · obtain ⟨a1, a2, a3⟩ := h2
      have d1 : decide (0 ≤ ep) = true := by simpa using a1
      have d2 : decide (ep ≤ 65535) = true := by simpa using a2
      have d3 : decide ((b.size : Int) ≤ 64) = true := by simp; omega
      rw [show Fr.right ⟨1, ep, sq, ak, b⟩ = true from by simp only [Fr.right, true_and, true_or, and_true]; first | (apply decide_eq_true; omega) | (apply decide_eq_false; omega)]
      go_enter Tryz.func62, Tryz.ntmps62
      go_wp2
      go_ret
      exact ⟨rfl, HBL.out⟩
    · by_cases a1 : 0 ≤ ep
      · have d1 : decide (0 ≤ ep) = true := by simpa using a1
        by_cases a2 : ep ≤ 65535
        · have d2 : decide (ep ≤ 65535) = true := by simpa using a2
          have d3 : decide ((b.size : Int) ≤ 64) = false := by simp; omega
          rw [show Fr.right ⟨1, ep, sq, ak, b⟩ = false from by simp only [Fr.right, true_and, true_or, and_true]; first | (apply decide_eq_true; omega) | (apply decide_eq_false; omega)]
          go_enter Tryz.func62, Tryz.ntmps62
          go_wp2
          go_ret
          exact ⟨rfl, HBL.out⟩
        · have d2 : decide (ep ≤ 65535) = false := by simpa using a2
          rw [show Fr.right ⟨1, ep, sq, ak, b⟩ = false from by simp only [Fr.right, true_and, true_or, and_true]; first | (apply decide_eq_true; omega) | (apply decide_eq_false; omega)]
          go_enter Tryz.func62, Tryz.ntmps62
          go_wp2
          go_ret
          exact ⟨rfl, HBL.out⟩
      · have d1 : decide (0 ≤ ep) = false := by simpa using a1
        rw [show Fr.right ⟨1, ep, sq, ak, b⟩ = false from by simp only [Fr.right, true_and, true_or, and_true]; first | (apply decide_eq_true; omega) | (apply decide_eq_false; omega)]
        go_enter Tryz.func62, Tryz.ntmps62
        go_wp2
        go_ret
        exact ⟨rfl, HBL.out⟩
  · have k1 : (k == 1) = false := beq_eq_false_iff_ne.2 h1
    by_cases h2 : k = 2
    · subst h2
      by_cases h2 : 0 ≤ ep ∧ ep ≤ 65535 ∧ b.size ≤ 64
      · obtain ⟨a1, a2, a3⟩ := h2
        have d1 : decide (0 ≤ ep) = true := by simpa using a1
        have d2 : decide (ep ≤ 65535) = true := by simpa using a2
        have d3 : decide ((b.size : Int) ≤ 64) = true := by simp; omega
        by_cases a4 : b.size = 0
        · rw [decide_eq_true a4] at hsz
          rw [show Fr.right ⟨2, ep, sq, ak, b⟩ = true from by simp only [Fr.right, true_and, true_or, and_true]; first | (apply decide_eq_true; omega) | (apply decide_eq_false; omega)]
          go_enter Tryz.func62, Tryz.ntmps62
          go_wp2
          go_ret
          exact ⟨rfl, HBL.out⟩
        · rw [decide_eq_false a4] at hsz
          rw [show Fr.right ⟨2, ep, sq, ak, b⟩ = false from by simp only [Fr.right, true_and, true_or, and_true]; first | (apply decide_eq_true; omega) | (apply decide_eq_false; omega)]
          go_enter Tryz.func62, Tryz.ntmps62
          go_wp2
          go_ret
          exact ⟨rfl, HBL.out⟩
      · by_cases a1 : 0 ≤ ep
        · have d1 : decide (0 ≤ ep) = true := by simpa using a1
          by_cases a2 : ep ≤ 65535
          · have d2 : decide (ep ≤ 65535) = true := by simpa using a2
            have d3 : decide ((b.size : Int) ≤ 64) = false := by simp; omega
            rw [show Fr.right ⟨2, ep, sq, ak, b⟩ = false from by simp only [Fr.right, true_and, true_or, and_true]; first | (apply decide_eq_true; omega) | (apply decide_eq_false; omega)]
            go_enter Tryz.func62, Tryz.ntmps62
            go_wp2
            go_ret
            exact ⟨rfl, HBL.out⟩
          · have d2 : decide (ep ≤ 65535) = false := by simpa using a2
            rw [show Fr.right ⟨2, ep, sq, ak, b⟩ = false from by simp only [Fr.right, true_and, true_or, and_true]; first | (apply decide_eq_true; omega) | (apply decide_eq_false; omega)]
            go_enter Tryz.func62, Tryz.ntmps62
            go_wp2
            go_ret
            exact ⟨rfl, HBL.out⟩
        · have d1 : decide (0 ≤ ep) = false := by simpa using a1
          rw [show Fr.right ⟨2, ep, sq, ak, b⟩ = false from by simp only [Fr.right, true_and, true_or, and_true]; first | (apply decide_eq_true; omega) | (apply decide_eq_false; omega)]
          go_enter Tryz.func62, Tryz.ntmps62
          go_wp2
          go_ret
          exact ⟨rfl, HBL.out⟩
    · have k2 : (k == 2) = false := beq_eq_false_iff_ne.2 h2
      rw [show Fr.right ⟨k, ep, sq, ak, b⟩ = false from by simp only [Fr.right, true_and, true_or, and_true]; first | (apply decide_eq_true; omega) | (apply decide_eq_false; omega)]
      go_enter Tryz.func62, Tryz.ntmps62
      go_wp2
      go_ret
      exact ⟨rfl, HBL.out⟩
theorem right_is (f : Fr) (r : Bool) (h : f.right = r) (w : World) :
    Calls Tryz.prog 62 #[f.val] w fun e w' => e = .returned (.bool r) ∧ Below w.heap.size w w' := by subst h; exact right_any f w
/-- all that was there reads as before -/
theorem bcell {W w1 : World} {B : Nat} (hb : Below B W w1) : (∀ b o, b < B → w1.cell? ⟨b, o, none⟩ = W.cell? ⟨b, o, none⟩) ∧ (∀ b o, b < B → w1.frozen? ⟨b, o, none⟩ = W.frozen? ⟨b, o, none⟩) :=
  ⟨fun b o h => hb.cell (p := ⟨b, o, none⟩) h, fun b o h => hb.frozen (p := ⟨b, o, none⟩) h⟩
def frBox (k ep sq ak : Int) (b : ByteArray) : Obj := .cells #[.int .i64 k, .int .i64 ep, .int .u64 sq, .int .u64 ak, .string b] 83
end Go.Proofs.YtihhflajkohibaaGreatDoor.Link
