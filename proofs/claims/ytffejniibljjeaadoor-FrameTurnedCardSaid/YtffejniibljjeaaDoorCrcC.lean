/- Layer 5: the reference More returns the same sum, bit by bit. No conditions. -/
import Derived.Test.YtffejniibljjeaaDoorCrcB
namespace Go.Proofs.YtffejniibljjeaaDoor
set_option linter.unusedSimpArgs false
set_option linter.unusedVariables false
open Go.RowKit

theorem bv_full (a : BitVec 32) : bits .xor .u32 (val a) 4294967295 = val (~~~ a) := by
  rw [show (4294967295 : Int) = val (~~~ 0) from by decide, bv_xor]
  congr 1
  rw [BitVec.xor_comm]
  rfl
theorem bv_turn' (a : BitVec 32) (b : UInt8) : bits .xor .u32 (val a) (b.toNat : Int) = val (turn a b) := by
  have := b.toNat_lt
  have e : (b.toNat : Int) = val (Crc.ofByte b) := by
    simp only [val, Crc.ofByte, BitVec.toNat_ofNat]; omega
  rw [e, bv_xor]; rfl
theorem val_range (c : BitVec 32) : 0 ≤ val c ∧ val c ≤ 4294967295 := by
  have := c.isLt
  unfold val; omega
theorem val_rem (c : BitVec 32) : (val c % (2 : Int) == 1) = c.getLsbD 0 := by
  have h : c.getLsbD 0 = decide (c.toNat % 2 = 1) := by simp [BitVec.getLsbD]
  rw [h, Bool.eq_iff_iff]
  simp only [beq_iff_eq, decide_eq_true_eq, val]; omega
theorem val_half (c : BitVec 32) : val c / (2 : Int) = val (c >>> 1) := by
  unfold val
  rw [BitVec.toNat_ushiftRight, Nat.shiftRight_eq_div_pow]; omega
theorem bit_no (c : BitVec 32) (h : c.getLsbD 0 = false) : val c / (2 : Int) = val (Crc.bit c) := by
  rw [val_half]; unfold Crc.bit; rw [h]; simp
theorem bit_yes (c : BitVec 32) (h : c.getLsbD 0 = true) : bits .xor .u32 (val c / (2 : Int)) 3988292384 = val (Crc.bit c) := by
  rw [val_half, show (3988292384 : Int) = val Crc.poly from by decide, bv_xor]; unfold Crc.bit; rw [h]; rfl
theorem iter_snoc (f : BitVec 32 → BitVec 32) (n : Nat) (c : BitVec 32) : Crc.iter f (n + 1) c = f (Crc.iter f n c) := by
  rw [Crc.iter_add]; rfl

section
attribute [local go_sem] bv_full bv_turn bv_turn'
set_option maxHeartbeats 1000000 in
theorem refMore_any (sum : BitVec 32) (s : ByteArray) (w : World) (hs : s.size ≤ maxLen) :
    Calls Tryd.prog 23 #[.int .u32 (val sum), .string s] w fun e w' => e = .returned (.int .u32 (val (Crc.more sum s.data.toList))) ∧ w = w' := by
  unfold maxLen at hs
  go_enter Tryd.func23, Tryd.ntmps23
  go_wp2
  go_loop [5, 6] (fun c i => ∃ k : Nat, k ≤ s.size ∧ i = .int .i64 k ∧ c = .int .u32 (val (Crc.run (~~~ sum) (s.data.toList.take k)))) (fun _ i => s.size - (intOf i).toNat)
  case atStart => exact ⟨0, Nat.zero_le _, rfl, rfl⟩
  case round =>
    obtain ⟨k, hk, rfl, rfl⟩ := hrel
    by_cases hlt : k < s.size
    · have hsn := Lib.hid (run_snoc (~~~ sum) s k hlt)
      generalize Crc.run (~~~ sum) (s.data.toList.take k) = C at *
      go_wp2
      go_loop [5, 7] (fun c i => ∃ j : Nat, j ≤ 8 ∧ i = .int .i64 j ∧ c = .int .u32 (val (Crc.iter Crc.bit j (turn C s[k])))) (fun _ i => 8 - (intOf i).toNat)
      case atStart => exact ⟨0, by omega, rfl, rfl⟩
      case round =>
        obtain ⟨j, hj, rfl, rfl⟩ := hrel
        by_cases hj8 : j < 8
        · have hit := Lib.hid (iter_snoc Crc.bit j (turn C s[k]))
          generalize Crc.iter Crc.bit j (turn C s[k]) = D at *
          have hv := val_range D
          have hv0 : 0 ≤ val D := hv.1
          have hv1 : val D ≤ 4294967295 := hv.2
          clear hv
          cases hb : D.getLsbD 0
          · have h1 : (val D % (2 : Int) == 1) = false := by rw [val_rem]; exact hb
            have h2 := bit_no D hb
            clear hb
            go_wp2
            go_round
            case rel => exact ⟨j + 1, by omega, by go_num, by rw [hit.out, h2]⟩
            case measure => simp [intOf]; omega
          · have h1 : (val D % (2 : Int) == 1) = true := by rw [val_rem]; exact hb
            have h2 := bit_yes D hb
            clear hb
            go_wp2
            go_round
            case rel => exact ⟨j + 1, by omega, by go_num, by rw [hit.out]⟩
            case measure => simp [intOf]; omega
        · obtain rfl : j = 8 := by omega
          go_wp2
          go_round
          case rel => exact ⟨k + 1, by omega, by go_num, by rw [hsn.out, Crc.byte_eq]; rfl⟩
          case measure => simp [intOf]; omega
    · go_wp2
      go_ret
      exact ⟨ret_int (by rw [List.take_of_length_le (by simp; omega)]; rfl), rfl⟩
end
end Go.Proofs.YtffejniibljjeaaDoor
