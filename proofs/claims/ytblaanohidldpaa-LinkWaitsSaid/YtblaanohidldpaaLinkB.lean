/- Layer 9: what taking a frame does to an end in memory. Conditions: the end lies (EndIs), and is one that may be (Ok). -/
import Derived.Test.YtblaanohidldpaaLinkA
import Derived.Deep.RegionWith
import Derived.Deep.RegionHeld3
import Derived.Deep.QuietTactic
import Derived.Outline
import Derived.Deep.DeepCutAuto
import Derived.Deep.CutBlock
import Derived.BigQuiet
import Derived.Lib.Strings
namespace Go.Proofs.Ytblaanohidldpaa.Link
open Go.RowKit
section
variable {w : World} {p : Nat} {F : List Nat} {x : LE}
def Fr.val (f : Fr) : Value := .agg #[.int .i64 f.kind, .int .i64 f.epoch, .int .u64 f.seq, .int .u64 f.ack, .string f.body]
theorem ret_bool {a b : Bool} (h : a = b) : Ending.returned (.bool a) = .returned (.bool b) := by rw [h]
theorem empty_size (b : ByteArray) : b.toList.isEmpty = decide (b.size = 0) := by
  have e : b.toList = b.data.toList := Lib.toList_data b
  rw [e, Bool.eq_iff_iff, List.isEmpty_iff, decide_eq_true_iff, ← List.length_eq_zero_iff, Array.length_toList]
  rfl
set_option maxHeartbeats 1000000 in
theorem right_any (f : Fr) (w : World) :
    Calls Try.prog 29 #[f.val] w fun e w' => e = .returned (.bool f.right) ∧ Below w.heap.size w w' := by
  obtain ⟨k, ep, sq, ak, b⟩ := f
  have hbl := (Below.refl w.heap.size w).alloc (Nat.le_refl _) (.cells #[.int .i64 k, .int .i64 ep, .int .u64 sq, .int .u64 ak, .string b] 42)
  have HBL := Lib.hid hbl
  have hsz := empty_size b
  clear hbl
  unfold Fr.val
  by_cases h1 : k = 1
  · subst h1
    by_cases h2 : 0 ≤ ep ∧ ep ≤ 65535 ∧ b.size ≤ 64
    · obtain ⟨a1, a2, a3⟩ := h2
      have d1 : decide (0 ≤ ep) = true := by simpa using a1
      have d2 : decide (ep ≤ 65535) = true := by simpa using a2
      have d3 : decide ((b.size : Int) ≤ 64) = true := by simp; omega
      rw [show Fr.right ⟨1, ep, sq, ak, b⟩ = true from by simp only [Fr.right, true_and, true_or, and_true]; first | (apply decide_eq_true; omega) | (apply decide_eq_false; omega)]
      go_enter Try.func29, Try.ntmps29
      go_wp2
      go_ret
      exact ⟨rfl, HBL.out⟩
    · by_cases a1 : 0 ≤ ep
      · have d1 : decide (0 ≤ ep) = true := by simpa using a1
        by_cases a2 : ep ≤ 65535
        · have d2 : decide (ep ≤ 65535) = true := by simpa using a2
          have d3 : decide ((b.size : Int) ≤ 64) = false := by simp; omega
          rw [show Fr.right ⟨1, ep, sq, ak, b⟩ = false from by simp only [Fr.right, true_and, true_or, and_true]; first | (apply decide_eq_true; omega) | (apply decide_eq_false; omega)]
          go_enter Try.func29, Try.ntmps29
          go_wp2
          go_ret
          exact ⟨rfl, HBL.out⟩
        · have d2 : decide (ep ≤ 65535) = false := by simpa using a2
          rw [show Fr.right ⟨1, ep, sq, ak, b⟩ = false from by simp only [Fr.right, true_and, true_or, and_true]; first | (apply decide_eq_true; omega) | (apply decide_eq_false; omega)]
          go_enter Try.func29, Try.ntmps29
          go_wp2
          go_ret
          exact ⟨rfl, HBL.out⟩
      · have d1 : decide (0 ≤ ep) = false := by simpa using a1
        rw [show Fr.right ⟨1, ep, sq, ak, b⟩ = false from by simp only [Fr.right, true_and, true_or, and_true]; first | (apply decide_eq_true; omega) | (apply decide_eq_false; omega)]
        go_enter Try.func29, Try.ntmps29
        go_wp2
        go_ret
        exact ⟨rfl, HBL.out⟩
  · have k1 : (k == 1) = false := beq_eq_false_iff_ne.2 h1
    by_cases h2 : k = 2
    · subst h2
      by_cases h2 : 0 ≤ ep ∧ ep ≤ 65535 ∧ b.size ≤ 64
      · obtain ⟨a1, a2, a3⟩ := h2
        have d1 : decide (0 ≤ ep) = true := by simpa using a1
        have d2 : decide (ep ≤ 65535) = true := by simpa using a2
        have d3 : decide ((b.size : Int) ≤ 64) = true := by simp; omega
        by_cases a4 : b.size = 0
        · rw [decide_eq_true a4] at hsz
          rw [show Fr.right ⟨2, ep, sq, ak, b⟩ = true from by simp only [Fr.right, true_and, true_or, and_true]; first | (apply decide_eq_true; omega) | (apply decide_eq_false; omega)]
          go_enter Try.func29, Try.ntmps29
          go_wp2
          go_ret
          exact ⟨rfl, HBL.out⟩
        · rw [decide_eq_false a4] at hsz
          rw [show Fr.right ⟨2, ep, sq, ak, b⟩ = false from by simp only [Fr.right, true_and, true_or, and_true]; first | (apply decide_eq_true; omega) | (apply decide_eq_false; omega)]
          go_enter Try.func29, Try.ntmps29
          go_wp2
          go_ret
          exact ⟨rfl, HBL.out⟩
      · by_cases a1 : 0 ≤ ep
        · have d1 : decide (0 ≤ ep) = true := by simpa using a1
          by_cases a2 : ep ≤ 65535
          · have d2 : decide (ep ≤ 65535) = true := by simpa using a2
            have d3 : decide ((b.size : Int) ≤ 64) = false := by simp; omega
            rw [show Fr.right ⟨2, ep, sq, ak, b⟩ = false from by simp only [Fr.right, true_and, true_or, and_true]; first | (apply decide_eq_true; omega) | (apply decide_eq_false; omega)]
            go_enter Try.func29, Try.ntmps29
            go_wp2
            go_ret
            exact ⟨rfl, HBL.out⟩
          · have d2 : decide (ep ≤ 65535) = false := by simpa using a2
            rw [show Fr.right ⟨2, ep, sq, ak, b⟩ = false from by simp only [Fr.right, true_and, true_or, and_true]; first | (apply decide_eq_true; omega) | (apply decide_eq_false; omega)]
            go_enter Try.func29, Try.ntmps29
            go_wp2
            go_ret
            exact ⟨rfl, HBL.out⟩
        · have d1 : decide (0 ≤ ep) = false := by simpa using a1
          rw [show Fr.right ⟨2, ep, sq, ak, b⟩ = false from by simp only [Fr.right, true_and, true_or, and_true]; first | (apply decide_eq_true; omega) | (apply decide_eq_false; omega)]
          go_enter Try.func29, Try.ntmps29
          go_wp2
          go_ret
          exact ⟨rfl, HBL.out⟩
    · have k2 : (k == 2) = false := beq_eq_false_iff_ne.2 h2
      rw [show Fr.right ⟨k, ep, sq, ak, b⟩ = false from by simp only [Fr.right, true_and, true_or, and_true]; first | (apply decide_eq_true; omega) | (apply decide_eq_false; omega)]
      go_enter Try.func29, Try.ntmps29
      go_wp2
      go_ret
      exact ⟨rfl, HBL.out⟩
theorem right_is (f : Fr) (r : Bool) (h : f.right = r) (w : World) :
    Calls Try.prog 29 #[f.val] w fun e w' => e = .returned (.bool r) ∧ Below w.heap.size w w' := by subst h; exact right_any f w
/-- all that was there reads as before -/
theorem bcell {W w1 : World} {B : Nat} (hb : Below B W w1) : (∀ b o, b < B → w1.cell? ⟨b, o, none⟩ = W.cell? ⟨b, o, none⟩) ∧ (∀ b o, b < B → w1.frozen? ⟨b, o, none⟩ = W.frozen? ⟨b, o, none⟩) :=
  ⟨fun b o h => hb.cell (p := ⟨b, o, none⟩) h, fun b o h => hb.frozen (p := ⟨b, o, none⟩) h⟩
set_option maxHeartbeats 2000000 in
theorem take_no (h : EndIs w p F x) (f : Fr) (hf : x.fits f = false) :
    Calls Try.prog 22 #[.pointer (some ⟨p, 0, none⟩), f.val] w fun e w' => e = .returned (.tuple #[.string ⟨#[]⟩, .bool false]) ∧ Below w.heap.size w w' := by
  obtain ⟨A, c, G, rfl, hn, hst, hv⟩ := h.lies
  have hpl := lt_of_block hst
  have hpl1 : p < w.heap.size + 1 := by omega
  have c0 := cell_of_block hst 0
  simp [ends] at c0
  have hfv : ∀ v, f.right = v → Fr.right ⟨f.kind, f.epoch, f.seq, f.ack, f.body⟩ = v := fun v h => h
  unfold LE.fits at hf
  cases hr : f.right
  · have HR := Lib.hid hr
    clear hr hf hfv
    obtain ⟨k, ep, sq, ak, b⟩ := f
    unfold Fr.val
    go_enter Try.func22, Try.ntmps22
    go_wp2_with fail
    first | (go_region_with ((go_at_call 29; refine (right_is ⟨k, ep, sq, ak, b⟩ false HR.out _).mono ?_; rintro e w1 ⟨rfl, hb⟩))) | (trace "no")
    all_goals
      go_wp2
      go_ret2
      exact ⟨rfl, ((below_drewN (Below.refl w.heap.size w) 1).alloc (Nat.le_refl _) _).trans (hb.mono (by simp))⟩
  · rw [hr] at hf
    have hne : f.epoch ≠ x.epoch := by simpa using hf
    have HR := Lib.hid hr
    clear hr hf hfv
    obtain ⟨k, ep, sq, ak, b⟩ := f
    unfold Fr.val
    have hd : (ep == x.epoch) = false := beq_eq_false_iff_ne.2 hne
    have hd2 : (ep != x.epoch) = true := bne_iff_ne.2 hne
    go_enter Try.func22, Try.ntmps22
    go_wp2_with fail
    go_region_held3 (fun w' => w'.cell? ⟨p, 0, none⟩ = some (.int .i64 x.epoch) ∧ w'.cell? ⟨w.heap.size, 0, none⟩ = some (.int .i64 k) ∧ w'.cell? ⟨w.heap.size, 1, none⟩ = some (.int .i64 ep) ∧ w'.cell? ⟨w.heap.size, 2, none⟩ = some (.int .u64 sq) ∧ w'.cell? ⟨w.heap.size, 3, none⟩ = some (.int .u64 ak) ∧ w'.cell? ⟨w.heap.size, 4, none⟩ = some (.string b)) (go_keep) ((go_at_call 29; refine (right_is ⟨k, ep, sq, ak, b⟩ true HR.out _).mono ?_; rintro e w1 ⟨rfl, hb⟩; obtain ⟨hcc, _⟩ := bcell hb))
    all_goals
      go_wp2
      go_ret2
      exact ⟨rfl, ((below_drewN (Below.refl w.heap.size w) 1).alloc (Nat.le_refl _) _).trans (hb.mono (by simp))⟩
end
end Go.Proofs.Ytblaanohidldpaa.Link
