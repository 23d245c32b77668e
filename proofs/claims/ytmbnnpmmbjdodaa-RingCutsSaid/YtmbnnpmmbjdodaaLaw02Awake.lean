/- Layer 2: the statements' awake returns true. No conditions. -/
import Derived.Test.YtmbnnpmmbjdodaaRingI
import Derived.Test.YtmbnnpmmbjdodaaSlices
namespace Go.Proofs.Ytmbnnpmmbjdodaa
set_option linter.unusedSimpArgs false
set_option linter.unusedVariables false
open Go.RowKit

theorem own_len {w : World} {base : Nat} {e : TypeId} {size n : Nat} {v : Value} {xs : List Value} (h : w.ownsRow base e size v n xs) : ∃ A c, v = .slice A n c := by
  obtain ⟨A, c, hv, _, _⟩ := Sl.of_own h
  exact ⟨A, c, hv⟩
set_option maxHeartbeats 2000000 in
theorem awake_any (w : World) : Calls Try.prog 10 #[] w fun e w' => e = .returned (.bool true) ∧ Below w.heap.size w w' := by
  go_enter Try.func10, Try.ntmps10
  go_wp2_with fail
  refine (RingI.new_has 2 _).mono ?_
  rintro e w1 ⟨rfl, h1, hb1⟩
  rw [show RingI.clamp 2 = 2 from by decide] at h1
  go_wp2_with fail
  refine (RingI.push_has h1 5).mono ?_
  rintro e w2 ⟨rfl, h2, hk2⟩
  rw [show RingI.pushed 2 [] 5 = [5] from by decide] at h2
  go_wp2_with fail
  refine (RingI.push_has h2 6).mono ?_
  rintro e w3 ⟨rfl, h3, hk3⟩
  rw [show RingI.pushed 2 [5] 6 = [5, 6] from by decide] at h3
  go_wp2_with fail
  refine (RingI.push_has h3 7).mono ?_
  rintro e w4 ⟨rfl, h4, hk4⟩
  rw [show RingI.pushed 2 [5, 6] 7 = [5, 6] from by decide] at h4
  go_wp2_with fail
  refine (RingI.pop_has h4).mono ?_
  rintro e w5 ⟨rfl, h5, hk5⟩
  simp only [List.tail_cons] at h5
  go_wp2_with fail
  refine (RingI.push_has h5 7).mono ?_
  rintro e w6 ⟨rfl, h6, hk6⟩
  rw [show RingI.pushed 2 [6] 7 = [6, 7] from by decide] at h6
  go_wp2_with fail
  refine (RingI.at_has h6 1).mono ?_
  rintro e w7 ⟨rfl, n7, rfl⟩
  rw [show RingI.got [6, 7] 1 = 7 from by decide, show RingI.has [6, 7] 1 = true from by decide]
  go_wp2_with fail
  refine (RingI.cut_has (h6.drewN n7) 0).mono ?_
  rintro e w8 ⟨rfl, h8, hk8⟩
  rw [show RingI.got [6, 7] 0 = 6 from by decide, show RingI.has [6, 7] 0 = true from by decide]
  rw [show RingI.cutted [6, 7] 0 = [7] from by decide] at h8
  go_wp2_with fail
  refine (RingI.len_has h8).mono ?_
  rintro e w9 ⟨rfl, rfl⟩
  go_wp2_with fail
  refine (RingI.room_has h8).mono ?_
  rintro e w9 ⟨rfl, n9, rfl⟩
  go_wp2_with fail
  refine (RingI.all_has (h8.drewN n9)).mono ?_
  rintro e w9 ⟨v, rfl, ho, hb9⟩
  obtain ⟨A, c, rfl⟩ := own_len ho
  go_wp2_with fail
  go_ret
  have hL : ∀ x, x ∈ [w.heap.size + 1, w.heap.size] → w.heap.size ≤ x := by simp
  have hb2 := Kept.after hb1 hk2 hL
  have hb3 := Kept.after hb2 hk3 hL
  have hb4 := Kept.after hb3 hk4 hL
  have hb5 := Kept.after hb4 hk5 hL
  have hb6 := Kept.after hb5 hk6 hL
  have hb8 := below_drewN (Kept.after (below_drewN hb6 n7) hk8 hL) n9
  exact ⟨rfl, hb8.trans (hb9.mono hb8.size)⟩
end Go.Proofs.Ytmbnnpmmbjdodaa
