/- Layer 5: the walk of CrcJoins. Conditions: the table lies in block 0. -/
import Derived.Test.YtflmcfddaabboaaDoorCrcE
namespace Go.Proofs.YtflmcfddaabboaaDoor
open Go.RowKit

theorem cat_size (a b : ByteArray) : (a ++ b).size = a.size + b.size := by simp
theorem sum_cat (a b : ByteArray) : (val (Crc.more (Crc.sum a.data.toList) b.data.toList) == val (Crc.sum (a.data.toList ++ b.data.toList))) = true := by
  rw [Crc.sum_append]; simp
theorem more_none (x : BitVec 32) (w : World) (ht : TabAt w) : Calls Tryd.prog 14 #[.int .u32 (val x), .string ⟨#[]⟩] w fun e w' => e = .returned (.int .u32 (val x)) ∧ w = w' := by
  have h := more_any x ⟨#[]⟩ w (by decide) ht
  rw [show Crc.more x (⟨#[]⟩ : ByteArray).data.toList = x from Crc.more_nil x] at h
  exact h
set_option maxHeartbeats 1000000 in
theorem joins_walk (a b : ByteArray) (w : World) (ha : a.size ≤ maxLen) (hb : b.size ≤ maxLen) (ht : TabAt w) : Calls Tryd.prog 4 #[.string a, .string b] w fun e w' => e = .returned (.bool true) ∧ Below w.heap.size w w' := by
  have hp := ht.pos
  by_cases h : a.size ≤ 300 ∧ b.size ≤ 300
  · obtain ⟨h1, h2⟩ := h
    have hab : (a ++ b).size ≤ maxLen := by rw [cat_size]; unfold maxLen; omega
    have hab' : a.size + b.size ≤ 600 := by omega
    have hq := sum_cat a b
    go_enter Tryd.func4, Tryd.ntmps4
    go_wp2_with fail
    refine (awake_any _ ht).mono ?_
    rintro e w1 ⟨rfl, hb1⟩
    have ht1 := ht.below hb1 hp
    go_wp2_with fail
    refine (sum_any a _ ha ht1).mono ?_
    rintro e w2 ⟨rfl, rfl⟩
    go_wp2_with fail
    refine (more_any _ b _ hb ht1).mono ?_
    rintro e w2 ⟨rfl, rfl⟩
    go_wp2_with fail
    refine (sum_any (a ++ b) _ hab ht1).mono ?_
    rintro e w2 ⟨rfl, rfl⟩
    go_wp2_with fail
    refine (sum_any a _ ha ht1).mono ?_
    rintro e w2 ⟨rfl, rfl⟩
    go_wp2_with fail
    refine (more_none _ _ ht1).mono ?_
    rintro e w2 ⟨rfl, rfl⟩
    go_wp2_with fail
    refine (sum_any a _ ha ht1).mono ?_
    rintro e w2 ⟨rfl, rfl⟩
    go_wp2_with fail
    go_ret
    exact ⟨rfl, hb1⟩
  · have hd : decide (300 < (a.size : Int)) = true ∨ decide (300 < (a.size : Int)) = false ∧ decide (300 < (b.size : Int)) = true := by simp; omega
    rcases hd with hd | ⟨hd, hd2⟩
    all_goals
      go_enter Tryd.func4, Tryd.ntmps4
      go_wp2_with fail
      refine (awake_any _ ht).mono ?_
      rintro e w1 ⟨rfl, hb1⟩
      have ht1 := ht.below hb1 hp
      go_wp2_with fail
      refine (awake_any _ ht1).mono ?_
      rintro e w2 ⟨rfl, hb2⟩
      go_wp2
      go_ret
      exact ⟨rfl, hb1.trans (hb2.mono hb1.size)⟩
end Go.Proofs.YtflmcfddaabboaaDoor
