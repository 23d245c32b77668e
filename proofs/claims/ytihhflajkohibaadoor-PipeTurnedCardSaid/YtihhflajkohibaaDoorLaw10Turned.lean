/- Layer 10: the walk of PipeTurned. Conditions: the table of layer 5 and the variable of package errors are laid. -/
import Derived.Test.YtihhflajkohibaaDoorPipeTurnP
import Derived.Test.YtihhflajkohibaaDoorPipeAwake
namespace Go.Proofs.YtihhflajkohibaaDoor.Pipe
set_option linter.unusedSimpArgs false
set_option linter.unusedVariables false
set_option maxRecDepth 100000
open Go.RowKit
open Go.Proofs.YtihhflajkohibaaDoor
open Go.Proofs.YtihhflajkohibaaDoor.Link (LE Fr EndIs)
open Go.Proofs.YtihhflajkohibaaDoor.Net (NS NetIs)
theorem turn_short (first : Int) (b : ByteArray) (bit : Int) : Short (t2 first b).n ∧ Short (t3 first b bit).n ∧ Short (t4 first b bit).n ∧ Short (t6 first b bit).n := by
  have h0 : Short (t0 first).n := by unfold t0 new; exact new_short _ _
  have h1 : Short (t1 first b).n := by unfold t1 PS.send; exact h0
  have h2 : Short (t2 first b).n := by unfold t2; exact PS.short_go h1
  have h3 : Short (t3 first b bit).n := by unfold t3; exact PS.short_flip h2 _ _
  have h4 : Short (t4 first b bit).n := by unfold t4; exact PS.short_come h3 _
  have h5 : Short (t5 first b bit).n := by unfold t5 PS.tick; exact h4
  have h6 : Short (t6 first b bit).n := by unfold t6; exact PS.short_go h5
  exact ⟨h2, h3, h4, h6⟩
set_option maxRecDepth 100000 in
set_option maxHeartbeats 4000000 in
theorem turned_walk (first : Int) (b : ByteArray) (bit : Int) (hu : Link.u first = first) (w : World) (ht : TabAt w) (hg : Frame.ErrAt w) :
    Calls Tryd.prog 5 #[.int .u64 first, .string b, .int .i64 bit] w fun e w' => e = .returned (.bool true) ∧ Below w.heap.size w w' := by
  have HU := Lib.hid hu
  have HV := Lib.hid (Env.of ht hg)
  clear hu ht hg
  go_enter Tryd.func5, Tryd.ntmps5
  go_wp2_with fail
  refine (stand_new 3 first 1 1 1 1 HU.out w _ (Below.refl _ _) HV.out).mono ?_
  rintro e w1 ⟨p, rfl, h1⟩
  have H0 := Lib.hid (show Stand w p (t0 first) w1 from h1)
  clear h1
  go_wp2_with fail
  refine (awake_any _ H0.out.env).mono ?_
  rintro e w2 ⟨rfl, hb⟩
  have H1 := Lib.hid (H0.out.after hb)
  clear hb
  by_cases hb : b.size ≤ 64
  · have hd : decide (64 < (b.size : Int)) = false := by simp; omega
    have HB := Lib.hid hb
    have HS := Lib.hid (turn_short first b bit)
    clear hb
    go_wp2_with fail
    refine (H1.out.send true b).mono ?_
    rw [t1_e HB.out]
    rintro e w3 ⟨rfl, h3⟩
    have H3 := Lib.hid (show Stand w p (t1 first b) w3 from h3)
    clear h3
    go_wp2_with fail
    refine (H3.out.go true).mono ?_
    rw [(t2_is HU.out HB.out).2]
    rintro e w4 ⟨rfl, h4⟩
    have H4 := Lib.hid (show Stand w p (t2 first b) w4 from h4)
    clear h4
    go_wp2_with fail
    refine (H4.out.flip false 0 bit HS.out.1).mono ?_
    rw [(t3_is HU.out HB.out bit).2]
    rintro e w5 ⟨rfl, h5⟩
    have H5 := Lib.hid (show Stand w p (t3 first b bit) w5 from h5)
    clear h5
    go_wp2_with fail
    refine (H5.out.come false 0 HS.out.2.1 (by rw [(t3_is HU.out HB.out bit).1]; simp)).mono ?_
    rw [(t4_is HU.out HB.out bit).2]
    generalize (t3 first b bit).comeS false 0 = sx
    rintro e w6 ⟨rfl, h6⟩
    have H6 := Lib.hid (show Stand w p (t4 first b bit) w6 from h6)
    clear h6
    go_wp2_with fail
    refine (H6.out.tick true).mono ?_
    rintro e w7 ⟨rfl, h7⟩
    have H7 := Lib.hid (show Stand w p (t5 first b bit) w7 from h7)
    clear h7
    go_wp2_with fail
    refine (H7.out.go true).mono ?_
    rw [(t6_is HU.out HB.out bit).2]
    rintro e w8 ⟨rfl, h8⟩
    have H8 := Lib.hid (show Stand w p (t6 first b bit) w8 from h8)
    clear h8
    go_wp2_with fail
    refine (H8.out.come false 0 HS.out.2.2.2 (by rw [(t6_is HU.out HB.out bit).1]; simp)).mono ?_
    rw [(t7_is HU.out HB.out bit).2.2.1, (t7_is HU.out HB.out bit).2.2.2]
    rintro e w9 ⟨rfl, h9⟩
    have H9 := Lib.hid (show Stand w p (t7 first b bit) w9 from h9)
    clear h9
    go_wp2_with fail
    refine (H9.out.got false (by rw [(t7_is HU.out HB.out bit).1]; simp)).mono ?_
    rw [(t7_is HU.out HB.out bit).1]
    rintro e w10 ⟨A, c, G, rfl, _, h10⟩
    have H10 := Lib.hid h10
    clear h10
    go_wp2_with fail
    refine (H10.out.got true (by rw [(t7_is HU.out HB.out bit).2.1]; simp)).mono ?_
    rw [(t7_is HU.out HB.out bit).2.1]
    rintro e w11 ⟨A', c', G', rfl, _, h11⟩
    have H11 := Lib.hid h11
    clear h11
    go_wp2_with fail
    go_ret
    exact ⟨rfl, H11.out.below⟩
  · have hd : decide (64 < (b.size : Int)) = true := by simp; omega
    clear hb
    go_wp2_with fail
    refine (awake_any _ H1.out.env).mono ?_
    rintro e w3 ⟨rfl, hb⟩
    have H3 := Lib.hid (H1.out.after hb)
    clear hb
    go_wp2_with fail
    go_ret
    exact ⟨rfl, H3.out.below⟩
end Go.Proofs.YtihhflajkohibaaDoor.Pipe
