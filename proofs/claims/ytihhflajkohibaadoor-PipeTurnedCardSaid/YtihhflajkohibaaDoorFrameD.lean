/- Layer 6: the references High, Number, Right and the frame's Same. Conditions: at most 8 bytes of a number. -/
import Derived.Test.YtihhflajkohibaaDoorFrameC
import Derived.Test.YtihhflajkohibaaDoorCrcD
namespace Go.Proofs.YtihhflajkohibaaDoor.Frame
set_option linter.unusedSimpArgs false
set_option linter.unusedVariables false
set_option maxRecDepth 100000
open Go.RowKit
open Go.Proofs.YtihhflajkohibaaDoor
open Go.Proofs.YtihhflajkohibaaDoor.Link (Fr right_is right_any frBox bcell ret_bool empty_size)

theorem cutN_zero (n : Nat) : (n : Int) = cutN n 0 := by simp [cutN]
theorem cutN_succ (n j : Nat) : cutN n j / 256 = cutN n (j + 1) := by
  unfold cutN
  rw [Nat.pow_succ, ← Nat.div_div_eq_div_mul]; omega
theorem cutN_nonneg (n j : Nat) : 0 ≤ cutN n j := Int.natCast_nonneg _
theorem cutN_strs (n j : Nat) : strOfNums [cutN n j % 256] ++ ⟨(hi n j).toArray⟩ = ⟨(hi n (j + 1)).toArray⟩ := by
  have e : strOfNums [cutN n j % 256] = ⟨[Crc.b8 (n / 256 ^ j)].toArray⟩ := by
    unfold strOfNums cutN
    congr 2
    simp only [List.map_cons, List.map_nil]
    rw [show (((n / 256 ^ j : Nat) : Int) % 256).toNat = (n / 256 ^ j) % 256 from by omega]
    congr 1
    apply UInt8.toNat_inj.1
    simp [Crc.b8]
  rw [e]; rfl
theorem cutN_size (n j : Nat) (x : Int) (h : j ≤ 8) : (strOfNums [x]).size + (hi n j).length ≤ 9 := by
  rw [strOfNums_size, hi_length]; simp; omega
theorem cutN_quo (n j : Nat) (hn : n < 18446744073709551616) : IntKind.u64.wrap ((cutN n j).tdiv 256) = cutN n (j + 1) := by
  rw [Int.tdiv_eq_ediv_of_nonneg (cutN_nonneg n j), cutN_succ, IntKind.wrap_u64]
  have h : n / 256 ^ (j + 1) ≤ n := Nat.div_le_self ..
  unfold cutN
  generalize n / 256 ^ (j + 1) = q at *
  omega
theorem add_step (l : List UInt8) (h : l.length ≤ 7) (c : UInt8) : IntKind.u64.wrap (IntKind.u64.wrap (numI l * 256) + IntKind.u64.wrap (c.toNat : Int)) = numI (l ++ [c]) := by
  have h1 := num_lt l
  have h2 : 256 ^ l.length ≤ 256 ^ 7 := Nat.pow_le_pow_right (by decide) h
  have hc := c.toNat_lt
  rw [IntKind.wrap_u64, IntKind.wrap_u64, IntKind.wrap_u64, numI_snoc]
  unfold numI
  omega
section
attribute [local go_sem] conv1
end
end Go.Proofs.YtihhflajkohibaaDoor.Frame
