/- Layer 5: crc.More returns the sum of the bytes behind a sum, and leaves the world alone. Conditions: the table lies in block 0. -/
import Derived.Test.YtihhflajkohibaaDoorRows
import Derived.Test.YtihhflajkohibaaDoorCrcPlain
import Derived.WalkKit
import Derived.Lib.Hide
namespace Go.Proofs.YtihhflajkohibaaDoor
set_option linter.unusedSimpArgs false
set_option linter.unusedVariables false
set_option maxRecDepth 100000
open Go.RowKit

/-- a sum as an integer; nothing looks into it -/
def val (c : BitVec 32) : Int := (c.toNat : Int)
def lowN (c : BitVec 32) : Nat := (c &&& 15#32).toNat
def turn (c : BitVec 32) (b : UInt8) : BitVec 32 := c ^^^ Crc.ofByte b
theorem bv_xor (a b : BitVec 32) : bits .xor .u32 (val a) (val b) = val (a ^^^ b) := by
  unfold val
  rw [u32_xor_nat _ _ a.isLt b.isLt, BitVec.toNat_xor]
theorem bv_not (a : BitVec 32) : bits .xor .u32 IntKind.u32.max (val a) = val (~~~ a) := by
  rw [show IntKind.u32.max = val (~~~ 0) from by decide, bv_xor]
  congr 1
theorem bv_low (a : BitVec 32) : bits .and .u32 (val a) 15 = (lowN a : Int) := by
  unfold val lowN
  rw [show (15 : Int) = (((15#32).toNat : Nat) : Int) from by decide, u32_and_nat _ _ a.isLt (15#32).isLt, BitVec.toNat_and]
theorem bv_nib (a : BitVec 32) : bits .xor .u32 (val a / (16 : Int)) (val (Crc.tab (lowN a))) = val (Crc.nib a) := by
  have e : (val a / (16 : Int) : Int) = val (a >>> 4) := by
    unfold val
    rw [BitVec.toNat_ushiftRight, Nat.shiftRight_eq_div_pow]; omega
  rw [e, bv_xor]; rfl
theorem bv_turn (a : BitVec 32) (b : UInt8) : bits .xor .u32 (val a) ((b.toNat : Int) % 4294967296) = val (turn a b) := by
  have := b.toNat_lt
  have e : (b.toNat : Int) % 4294967296 = val (Crc.ofByte b) := by
    simp only [val, Crc.ofByte, BitVec.toNat_ofNat]; omega
  rw [e, bv_xor]; rfl
theorem low_lt (a : BitVec 32) : lowN a < 16 := by
  unfold lowN
  rw [BitVec.toNat_and]
  exact Nat.lt_of_le_of_lt Nat.and_le_right (by decide)
theorem low_lt' (a : BitVec 32) : ((lowN a : Nat) : Int) < 16 := by have := low_lt a; omega
theorem run_snoc (c : BitVec 32) (s : ByteArray) (k : Nat) (h : k < s.size) : Crc.run c (s.data.toList.take (k + 1)) = Crc.byte (Crc.run c (s.data.toList.take k)) s[k] := by
  have e : s.data.toList.take (k + 1) = s.data.toList.take k ++ [s[k]] := by
    rw [List.take_succ_eq_append_getElem (by simpa using h)]; rfl
  rw [e, Crc.run_append]; rfl
theorem ret_int {k : IntKind} {a b : Int} (h : a = b) : Ending.returned (.int k a) = .returned (.int k b) := by rw [h]

/-- the table lies -/
def TabAt (w : World) : Prop := ∀ i, i < 16 → w.cell? ⟨1, i, none⟩ = some (.int .u32 (val (Crc.tab i)))

section
attribute [local go_sem] bv_not bv_low bv_nib bv_turn low_lt low_lt'
set_option maxHeartbeats 400000 in
theorem more_any (sum : BitVec 32) (s : ByteArray) (w : World) (hs : s.size ≤ maxLen) (ht : TabAt w) :
    Calls Tryd.prog 64 #[.int .u32 (val sum), .string s] w fun e w' => e = .returned (.int .u32 (val (Crc.more sum s.data.toList))) ∧ w = w' := by
  unfold maxLen at hs
  unfold TabAt at ht
  go_enter Tryd.func64, Tryd.ntmps64
  go_wp2
  go_loop [5, 11] (fun c i => ∃ k : Nat, k ≤ s.size ∧ i = .int .i64 k ∧ c = .int .u32 (val (Crc.run (~~~ sum) (s.data.toList.take k)))) (fun _ i => s.size - (intOf i).toNat)
  case atStart => exact ⟨0, Nat.zero_le _, rfl, rfl⟩
  case round =>
    obtain ⟨k, hk, rfl, rfl⟩ := hrel
    by_cases hlt : k < s.size
    · have hsn := Lib.hid (run_snoc (~~~ sum) s k hlt)
      go_wp2
      go_round
      case rel => exact ⟨k + 1, by omega, by go_num, by rw [hsn.out]; rfl⟩
      case measure => simp [intOf]; omega
    · go_wp2
      go_ret
      exact ⟨ret_int (by rw [List.take_of_length_le (by simp; omega)]; rfl), rfl⟩
end
end Go.Proofs.YtihhflajkohibaaDoor
