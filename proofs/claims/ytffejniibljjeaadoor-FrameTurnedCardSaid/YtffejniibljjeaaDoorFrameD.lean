/- Layer 6: the references High, Number, Right and the frame's Same. Conditions: at most 8 bytes of a number. -/
import Derived.Test.YtffejniibljjeaaDoorFrameC
import Derived.Test.YtffejniibljjeaaDoorCrcD
namespace Go.Proofs.YtffejniibljjeaaDoor.Frame
set_option linter.unusedSimpArgs false
set_option linter.unusedVariables false
open Go.RowKit
open Go.Proofs.YtffejniibljjeaaDoor
open Go.Proofs.YtffejniibljjeaaDoor.Link (Fr right_is right_any frBox bcell ret_bool empty_size)

theorem cutN_zero (n : Nat) : (n : Int) = cutN n 0 := by simp [cutN]
theorem cutN_succ (n j : Nat) : cutN n j / 256 = cutN n (j + 1) := by
  unfold cutN
  rw [Nat.pow_succ, ← Nat.div_div_eq_div_mul]; omega
theorem cutN_nonneg (n j : Nat) : 0 ≤ cutN n j := Int.natCast_nonneg _
theorem cutN_strs (n j : Nat) : strOfNums [cutN n j % 256] ++ ⟨(hi n j).toArray⟩ = ⟨(hi n (j + 1)).toArray⟩ := by
  have e : strOfNums [cutN n j % 256] = ⟨[Crc.b8 (n / 256 ^ j)].toArray⟩ := by
    unfold strOfNums cutN
    congr 2
    simp only [List.map_cons, List.map_nil]
    rw [show (((n / 256 ^ j : Nat) : Int) % 256).toNat = (n / 256 ^ j) % 256 from by omega]
    congr 1
    apply UInt8.toNat_inj.1
    simp [Crc.b8]
  rw [e]; rfl
theorem cutN_size (n j : Nat) (x : Int) (h : j ≤ 8) : (strOfNums [x]).size + (hi n j).length ≤ 9 := by
  rw [strOfNums_size, hi_length]; simp; omega
theorem cutN_quo (n j : Nat) (hn : n < 18446744073709551616) : IntKind.u64.wrap ((cutN n j).tdiv 256) = cutN n (j + 1) := by
  rw [Int.tdiv_eq_ediv_of_nonneg (cutN_nonneg n j), cutN_succ, IntKind.wrap_u64]
  have h : n / 256 ^ (j + 1) ≤ n := Nat.div_le_self ..
  unfold cutN
  generalize n / 256 ^ (j + 1) = q at *
  omega
theorem add_step (l : List UInt8) (h : l.length ≤ 7) (c : UInt8) : IntKind.u64.wrap (IntKind.u64.wrap (numI l * 256) + IntKind.u64.wrap (c.toNat : Int)) = numI (l ++ [c]) := by
  have h1 := num_lt l
  have h2 : 256 ^ l.length ≤ 256 ^ 7 := Nat.pow_le_pow_right (by decide) h
  have hc := c.toNat_lt
  rw [IntKind.wrap_u64, IntKind.wrap_u64, IntKind.wrap_u64, numI_snoc]
  unfold numI
  omega
section
attribute [local go_sem] conv1
set_option maxRecDepth 100000 in
set_option maxHeartbeats 1000000 in
theorem high_any (n many : Nat) (hm : many ≤ 8) (hn : n < 18446744073709551616) (w : World) :
    Calls Tryd.prog 21 #[.int .u64 (n : Int), .int .i64 (many : Int)] w fun e w' => e = .returned (.string ⟨(hi n many).toArray⟩) ∧ Below w.heap.size w w' := by
  rw [cutN_zero]
  have HNN := Lib.hid hn
  clear hn
  go_enter Tryd.func21, Tryd.ntmps21
  go_wp2_with fail
  go_loopw [0, 5, 6] (fun m out i wr => ∃ j : Nat, j ≤ many ∧ i = .int .i64 j ∧ m = .int .u64 (cutN n j) ∧ out = .string ⟨(hi n j).toArray⟩ ∧ Below w.heap.size w wr) (fun _ _ i _ => many - (intOf i).toNat)
  case atStart => exact ⟨0, by omega, rfl, rfl, rfl, Below.refl _ _⟩
  case round =>
    obtain ⟨j, hj, rfl, rfl, rfl, hb⟩ := hrel
    have hq0 := cutN_nonneg n j
    by_cases hlt : j < many
    · have hsz := cutN_size n j (cutN n j % 256) (by omega)
      go_wp2_with fail
      go_roundw
      case rel => exact ⟨j + 1, by omega, by go_num, by rw [cutN_quo n j HNN.out], by rw [cutN_strs], hb.alloc hb.size _⟩
      case measure => simp [intOf]; omega
    · obtain rfl : j = many := by omega
      go_wp2_with fail
      go_ret
      exact ⟨rfl, hb⟩
end
set_option maxRecDepth 100000 in
set_option maxHeartbeats 1000000 in
theorem number_ref (s : ByteArray) (w : World) (hs : s.size ≤ 8) :
    Calls Tryd.prog 27 #[.string s] w fun e w' => e = .returned (.int .u64 (numI s.data.toList)) ∧ w = w' := by
  have hN : s.data.toList.length = s.size := by simp
  have HN := Lib.hid hN
  clear hN
  go_enter Tryd.func27, Tryd.ntmps27
  go_wp2_with fail
  go_loop [3, 4] (fun m i => ∃ j : Nat, j ≤ s.size ∧ i = .int .i64 j ∧ m = .int .u64 (numI (s.data.toList.take j))) (fun _ i => s.size - (intOf i).toNat)
  case atStart => exact ⟨0, by omega, rfl, rfl⟩
  case round =>
    obtain ⟨j, hj, rfl, rfl⟩ := hrel
    by_cases hlt : j < s.size
    · have hst := add_step (s.data.toList.take j) (by rw [List.length_take, HN.out]; omega) (s[j])
      have e : s.data.toList.take (j + 1) = s.data.toList.take j ++ [s[j]] := by
        rw [List.take_succ_eq_append_getElem (by rw [HN.out]; exact hlt)]; rfl
      rw [← e] at hst
      have HST := Lib.hid hst
      clear hst e
      go_wp2_with fail
      go_round
      case rel => exact ⟨j + 1, by omega, by go_num, by rw [HST.out]⟩
      case measure => simp [intOf]; omega
    · obtain rfl : j = s.size := by omega
      go_wp2_with fail
      go_ret
      exact ⟨ret_int (by rw [List.take_of_length_le (by rw [HN.out]; exact Nat.le_refl _)]), rfl⟩
/-- the reference's Right -/
theorem refRight_any (f : Fr) (w : World) :
    Calls Tryd.prog 12 #[f.val] w fun e w' => e = .returned (.bool f.right) ∧ Below w.heap.size w w' := by
  obtain ⟨k, ep, sq, ak, b⟩ := f
  have hbl := (Below.refl w.heap.size w).alloc (Nat.le_refl _) (.cells #[.int .i64 k, .int .i64 ep, .int .u64 sq, .int .u64 ak, .string b] 25)
  have HBL := Lib.hid hbl
  have hsz := empty_size b
  clear hbl
  unfold Fr.val
  by_cases a1 : ep < 0
  · have d1 : decide (ep < 0) = true := by simpa using a1
    rw [show Fr.right ⟨k, ep, sq, ak, b⟩ = false from by simp only [Fr.right, true_and, true_or, and_true]; first | (apply decide_eq_true; omega) | (apply decide_eq_false; omega)]
    go_enter Tryd.func12, Tryd.ntmps12
    go_wp2
    go_ret
    exact ⟨rfl, HBL.out⟩
  have d1 : decide (ep < 0) = false := by simp; omega
  by_cases a2 : 65535 < ep
  · have d2 : decide (65535 < ep) = true := by simpa using a2
    rw [show Fr.right ⟨k, ep, sq, ak, b⟩ = false from by simp only [Fr.right, true_and, true_or, and_true]; first | (apply decide_eq_true; omega) | (apply decide_eq_false; omega)]
    go_enter Tryd.func12, Tryd.ntmps12
    go_wp2
    go_ret
    exact ⟨rfl, HBL.out⟩
  have d2 : decide (65535 < ep) = false := by simp; omega
  by_cases a3 : 64 < b.size
  · have d3 : decide (64 < (b.size : Int)) = true := by simp; omega
    rw [show Fr.right ⟨k, ep, sq, ak, b⟩ = false from by simp only [Fr.right, true_and, true_or, and_true]; first | (apply decide_eq_true; omega) | (apply decide_eq_false; omega)]
    go_enter Tryd.func12, Tryd.ntmps12
    go_wp2
    go_ret
    exact ⟨rfl, HBL.out⟩
  have d3 : decide (64 < (b.size : Int)) = false := by simp; omega
  by_cases h1 : k = 1
  · subst h1
    rw [show Fr.right ⟨1, ep, sq, ak, b⟩ = true from by simp only [Fr.right, true_and, true_or, and_true]; first | (apply decide_eq_true; omega) | (apply decide_eq_false; omega)]
    go_enter Tryd.func12, Tryd.ntmps12
    go_wp2
    go_ret
    exact ⟨rfl, HBL.out⟩
  have k1 : (k == 1) = false := beq_eq_false_iff_ne.2 h1
  by_cases h2 : k = 2
  · subst h2
    by_cases a4 : b.size = 0
    · rw [decide_eq_true a4] at hsz
      rw [show Fr.right ⟨2, ep, sq, ak, b⟩ = true from by simp only [Fr.right, true_and, true_or, and_true]; first | (apply decide_eq_true; omega) | (apply decide_eq_false; omega)]
      go_enter Tryd.func12, Tryd.ntmps12
      go_wp2
      go_ret
      exact ⟨rfl, HBL.out⟩
    · rw [decide_eq_false a4] at hsz
      rw [show Fr.right ⟨2, ep, sq, ak, b⟩ = false from by simp only [Fr.right, true_and, true_or, and_true]; first | (apply decide_eq_true; omega) | (apply decide_eq_false; omega)]
      go_enter Tryd.func12, Tryd.ntmps12
      go_wp2
      go_ret
      exact ⟨rfl, HBL.out⟩
  · have k2 : (k == 2) = false := beq_eq_false_iff_ne.2 h2
    rw [show Fr.right ⟨k, ep, sq, ak, b⟩ = false from by simp only [Fr.right, true_and, true_or, and_true]; first | (apply decide_eq_true; omega) | (apply decide_eq_false; omega)]
    go_enter Tryd.func12, Tryd.ntmps12
    go_wp2
    go_ret
    exact ⟨rfl, HBL.out⟩
end Go.Proofs.YtffejniibljjeaaDoor.Frame
