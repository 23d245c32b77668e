/- Layer 5: the walk of CrcTails. Conditions: the table lies in block 0. -/
import Derived.Test.YtflmcfddaabboaaDoorCrcE
namespace Go.Proofs.YtflmcfddaabboaaDoor
open Go.RowKit

theorem tails_beq (a b : BitVec 32) : ((Crc.tail a == Crc.tail b) == (val a == val b)) = true := by
  have h : (Crc.tail a == Crc.tail b) = (val a == val b) := by
    rw [Bool.eq_iff_iff]
    simp only [beq_iff_eq]
    constructor
    · intro h; rw [Crc.tail_inj h]
    · intro h
      have : a.toNat = b.toNat := by unfold val at h; omega
      rw [BitVec.eq_of_toNat_eq this]
  rw [h]; simp
set_option maxHeartbeats 1000000 in
theorem tails_walk (a b : BitVec 32) (w : World) (ht : TabAt w) : Calls Tryd.prog 8 #[.int .u32 (val a), .int .u32 (val b)] w fun e w' => e = .returned (.bool true) ∧ Below w.heap.size w w' := by
  have hp := ht.pos
  have hq := tails_beq a b
  have hla : (Crc.tail a).length = 4 := rfl
  have hlb : (Crc.tail b).length = 4 := rfl
  go_enter Tryd.func8, Tryd.ntmps8
  go_wp2_with fail
  refine (awake_any _ ht).mono ?_
  rintro e w1 ⟨rfl, hb1⟩
  go_wp2_with fail
  refine (tail_any a _).mono ?_
  rintro e w2 ⟨rfl, hb2⟩
  go_wp2_with fail
  refine (tail_any b _).mono ?_
  rintro e w3 ⟨rfl, hb3⟩
  go_wp2
  go_ret
  exact ⟨rfl, (hb1.trans (hb2.mono hb1.size)).trans (hb3.mono (Nat.le_trans hb1.size hb2.size))⟩
end Go.Proofs.YtflmcfddaabboaaDoor
