/- Layer 5: the reference Tail returns the four bytes of a sum. No conditions. -/
import Derived.Test.YtihhflajkohibaaDoorCrcC
namespace Go.Proofs.YtihhflajkohibaaDoor
set_option linter.unusedSimpArgs false
set_option linter.unusedVariables false
set_option maxRecDepth 100000
open Go.RowKit

def quo (c : BitVec 32) (j : Nat) : Int := ((c.toNat / 256 ^ j : Nat) : Int)
def tl (c : BitVec 32) : Nat → List UInt8
  | 0 => []
  | j + 1 => Crc.b8 (c.toNat / 256 ^ j) :: tl c j
theorem tl_four (c : BitVec 32) : tl c 4 = Crc.tail c := by simp [tl, Crc.tail]
theorem quo_zero (c : BitVec 32) : val c = quo c 0 := by simp [quo, val]
theorem quo_succ (c : BitVec 32) (j : Nat) : quo c j / 256 = quo c (j + 1) := by
  unfold quo
  rw [Nat.pow_succ, ← Nat.div_div_eq_div_mul]; omega
theorem quo_range (c : BitVec 32) (j : Nat) : 0 ≤ quo c j ∧ quo c j ≤ 4294967295 := by
  have := c.isLt
  have h : c.toNat / 256 ^ j ≤ c.toNat := Nat.div_le_self ..
  refine ⟨by unfold quo; exact Int.natCast_nonneg _, ?_⟩
  unfold quo
  generalize c.toNat / 256 ^ j = x at *
  omega
theorem tl_length (c : BitVec 32) (j : Nat) : (tl c j).length = j := by induction j with
  | zero => rfl
  | succ j ih => simp [tl, ih]
theorem tl_size (c : BitVec 32) (j : Nat) (x : Int) (h : j ≤ 4) : (strOfNums [x]).size + (tl c j).length ≤ 5 := by
  rw [strOfNums_size, tl_length]; simp; omega
theorem quo_byte (c : BitVec 32) (j : Nat) : strOfNums [quo c j % 256] = ⟨[Crc.b8 (c.toNat / 256 ^ j)].toArray⟩ := by
  unfold strOfNums quo
  congr 2
  simp only [List.map_cons, List.map_nil]
  rw [show (((c.toNat / 256 ^ j : Nat) : Int) % 256).toNat = (c.toNat / 256 ^ j) % 256 from by omega]
  congr 1
  apply UInt8.toNat_inj.1
  simp [Crc.b8]
theorem tl_step (c : BitVec 32) (j : Nat) : strOfNums [quo c j % 256] ++ ⟨(tl c j).toArray⟩ = ⟨(tl c (j + 1)).toArray⟩ := by
  rw [quo_byte]; rfl
theorem conv1 (w : World) (a : Int) :
    (convert 90 9 (.slice (some ⟨w.heap.size, 0, none⟩) 1 1)).run Tryd.prog (w.alloc (.cells #[.int .u8 a] 5)) =
      .ok (.string (strOfNums [a])) (w.alloc (.cells #[.int .u8 a] 5)) :=
  conv_new w [a] 1

section
attribute [local go_sem] conv1
end
end Go.Proofs.YtihhflajkohibaaDoor
