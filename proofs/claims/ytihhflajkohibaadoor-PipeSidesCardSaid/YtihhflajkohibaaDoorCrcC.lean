/- Layer 5: the reference More returns the same sum, bit by bit. No conditions. -/
import Derived.Test.YtihhflajkohibaaDoorCrcB
namespace Go.Proofs.YtihhflajkohibaaDoor
set_option linter.unusedSimpArgs false
set_option linter.unusedVariables false
set_option maxRecDepth 100000
open Go.RowKit

theorem bv_full (a : BitVec 32) : bits .xor .u32 (val a) 4294967295 = val (~~~ a) := by
  rw [show (4294967295 : Int) = val (~~~ 0) from by decide, bv_xor]
  congr 1
  rw [BitVec.xor_comm]
  rfl
theorem bv_turn' (a : BitVec 32) (b : UInt8) : bits .xor .u32 (val a) (b.toNat : Int) = val (turn a b) := by
  have := b.toNat_lt
  have e : (b.toNat : Int) = val (Crc.ofByte b) := by
    simp only [val, Crc.ofByte, BitVec.toNat_ofNat]; omega
  rw [e, bv_xor]; rfl
theorem val_range (c : BitVec 32) : 0 ≤ val c ∧ val c ≤ 4294967295 := by
  have := c.isLt
  unfold val; omega
theorem val_rem (c : BitVec 32) : (val c % (2 : Int) == 1) = c.getLsbD 0 := by
  have h : c.getLsbD 0 = decide (c.toNat % 2 = 1) := by simp [BitVec.getLsbD]
  rw [h, Bool.eq_iff_iff]
  simp only [beq_iff_eq, decide_eq_true_eq, val]; omega
theorem val_half (c : BitVec 32) : val c / (2 : Int) = val (c >>> 1) := by
  unfold val
  rw [BitVec.toNat_ushiftRight, Nat.shiftRight_eq_div_pow]; omega
theorem bit_no (c : BitVec 32) (h : c.getLsbD 0 = false) : val c / (2 : Int) = val (Crc.bit c) := by
  rw [val_half]; unfold Crc.bit; rw [h]; simp
theorem bit_yes (c : BitVec 32) (h : c.getLsbD 0 = true) : bits .xor .u32 (val c / (2 : Int)) 3988292384 = val (Crc.bit c) := by
  rw [val_half, show (3988292384 : Int) = val Crc.poly from by decide, bv_xor]; unfold Crc.bit; rw [h]; rfl
theorem iter_snoc (f : BitVec 32 → BitVec 32) (n : Nat) (c : BitVec 32) : Crc.iter f (n + 1) c = f (Crc.iter f n c) := by
  rw [Crc.iter_add]; rfl

section
attribute [local go_sem] bv_full bv_turn bv_turn'
end
end Go.Proofs.YtihhflajkohibaaDoor
