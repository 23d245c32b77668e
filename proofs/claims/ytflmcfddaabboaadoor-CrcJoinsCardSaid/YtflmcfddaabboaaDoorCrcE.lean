/- Layer 5: the statements awake returns true. Conditions: the table lies in block 0. -/
import Derived.Test.YtflmcfddaabboaaDoorCrcD
namespace Go.Proofs.YtflmcfddaabboaaDoor
open Go.RowKit

theorem tail_ex (w : World) : Calls Tryd.prog 15 #[.int .u32 3421780262] w fun e w' => e = .returned (.string ⟨#[203, 244, 57, 38]⟩) ∧ Below w.heap.size w w' := by
  have h := tail_any 3421780262#32 w
  rw [show val 3421780262#32 = 3421780262 from by decide, show Crc.tail 3421780262#32 = [203, 244, 57, 38] from by decide] at h
  exact h
theorem good_ex1 (w : World) (ht : TabAt w) : Calls Tryd.prog 10 #[.string ⟨#[49, 50, 51, 52, 53, 54, 55, 56, 57, 203, 244, 57, 38]⟩] w fun e w' => e = .returned (.tuple #[.string ⟨#[49, 50, 51, 52, 53, 54, 55, 56, 57]⟩, .bool true]) ∧ Below w.heap.size w w' := by
  have h := good_any ⟨#[49, 50, 51, 52, 53, 54, 55, 56, 57, 203, 244, 57, 38]⟩ w (by decide) ht
  rw [show Crc.good [49, 50, 51, 52, 53, 54, 55, 56, 57, 203, 244, 57, 38] = [49, 50, 51, 52, 53, 54, 55, 56, 57] from by decide +kernel, show Crc.isGood [49, 50, 51, 52, 53, 54, 55, 56, 57, 203, 244, 57, 38] = true from by decide +kernel] at h
  exact h
theorem good_ex2 (w : World) (ht : TabAt w) : Calls Tryd.prog 10 #[.string ⟨#[49, 50, 51, 52, 53, 54, 55, 56, 57]⟩] w fun e w' => e = .returned (.tuple #[.string ⟨#[]⟩, .bool false]) ∧ Below w.heap.size w w' := by
  have h := good_any ⟨#[49, 50, 51, 52, 53, 54, 55, 56, 57]⟩ w (by decide) ht
  rw [show Crc.good [49, 50, 51, 52, 53, 54, 55, 56, 57] = [] from by decide +kernel, show Crc.isGood [49, 50, 51, 52, 53, 54, 55, 56, 57] = false from by decide +kernel] at h
  exact h
theorem sum_ex1 (w : World) (ht : TabAt w) : Calls Tryd.prog 13 #[.string ⟨#[49, 50, 51, 52, 53, 54, 55, 56, 57]⟩] w fun e w' => e = .returned (.int .u32 3421780262) ∧ w = w' := by
  have h := sum_any ⟨#[49, 50, 51, 52, 53, 54, 55, 56, 57]⟩ w (by decide) ht
  rw [show val (Crc.sum [49, 50, 51, 52, 53, 54, 55, 56, 57]) = 3421780262 from by decide +kernel] at h
  exact h
theorem sum_ex2 (w : World) (ht : TabAt w) : Calls Tryd.prog 13 #[.string ⟨#[]⟩] w fun e w' => e = .returned (.int .u32 0) ∧ w = w' := by
  have h := sum_any ⟨#[]⟩ w (by decide) ht
  rw [show val (Crc.sum []) = 0 from by decide +kernel] at h
  exact h
theorem sum_ex3 (w : World) (ht : TabAt w) : Calls Tryd.prog 13 #[.string ⟨#[49, 50, 51, 52]⟩] w fun e w' => e = .returned (.int .u32 2615402659) ∧ w = w' := by
  have h := sum_any ⟨#[49, 50, 51, 52]⟩ w (by decide) ht
  rw [show val (Crc.sum [49, 50, 51, 52]) = 2615402659 from by decide +kernel] at h
  exact h
theorem more_ex (w : World) (ht : TabAt w) : Calls Tryd.prog 14 #[.int .u32 2615402659, .string ⟨#[53, 54, 55, 56, 57]⟩] w fun e w' => e = .returned (.int .u32 3421780262) ∧ w = w' := by
  have h := more_any 2615402659#32 ⟨#[53, 54, 55, 56, 57]⟩ w (by decide) ht
  rw [show val 2615402659#32 = 2615402659 from by decide, show val (Crc.more 2615402659#32 [53, 54, 55, 56, 57]) = 3421780262 from by decide +kernel] at h
  exact h

set_option maxHeartbeats 1000000 in
theorem awake_any (w : World) (ht : TabAt w) : Calls Tryd.prog 9 #[] w fun e w' => e = .returned (.bool true) ∧ Below w.heap.size w w' := by
  have hp := ht.pos
  go_enter Tryd.func9, Tryd.ntmps9
  go_wp2_with fail
  refine (tail_ex _).mono ?_
  rintro e w1 ⟨rfl, hb1⟩
  have ht1 := ht.below hb1 hp
  have hp1 := ht1.pos
  go_wp2_with fail
  refine (good_ex1 _ ht1).mono ?_
  rintro e w2 ⟨rfl, hb2⟩
  have ht2 := ht1.below hb2 hp1
  have hp2 := ht2.pos
  go_wp2_with fail
  refine (good_ex2 _ ht2).mono ?_
  rintro e w3 ⟨rfl, hb3⟩
  have ht3 := ht2.below hb3 hp2
  go_wp2_with (first | (go_at_call 14; refine (more_ex _ ht3).mono ?_; rintro e w' ⟨rfl, rfl⟩) | (go_at_call 13; first | ((with_reducible refine (sum_ex1 _ ht3).mono ?_); rintro e w' ⟨rfl, rfl⟩) | ((with_reducible refine (sum_ex2 _ ht3).mono ?_); rintro e w' ⟨rfl, rfl⟩) | ((with_reducible refine (sum_ex3 _ ht3).mono ?_); rintro e w' ⟨rfl, rfl⟩)))
  go_ret
  exact ⟨rfl, (hb1.trans (hb2.mono hb1.size)).trans (hb3.mono (Nat.le_trans hb1.size hb2.size))⟩
end Go.Proofs.YtflmcfddaabboaaDoor
