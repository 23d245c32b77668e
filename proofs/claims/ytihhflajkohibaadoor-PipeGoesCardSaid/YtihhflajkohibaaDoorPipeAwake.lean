/- Layer 10: the statements' awake returns true. Conditions: the program's variables are as they were laid (Env). -/
import Derived.Test.YtihhflajkohibaaDoorPipeAt
namespace Go.Proofs.YtihhflajkohibaaDoor.Pipe
set_option linter.unusedSimpArgs false
set_option linter.unusedVariables false
set_option maxRecDepth 100000
open Go.RowKit
open Go.Proofs.YtihhflajkohibaaDoor
open Go.Proofs.YtihhflajkohibaaDoor.Link (LE Fr EndIs)
open Go.Proofs.YtihhflajkohibaaDoor.Net (NS NetIs)
def ba : ByteArray := ⟨#[97]⟩
def q0 : PS := new 1 0 4 9 2 9
def q1 : PS := q0.send false ba
def q2 : PS := q1.go false
def q3 : PS := q2.flip true 0 50
def q4 : PS := q3.come true 0
def q5 : PS := q4.tick false
def q6 : PS := q5.tick false
def q7 : PS := q6.go false
def q8 : PS := q7.come true 0
theorem f1 : (q0.e false).sendE ba = 0 := by decide +kernel
theorem f2 : (q1.gone false).2 = 1 := by decide +kernel
theorem f3 : q2.flipOk true 0 = true := by decide +kernel
theorem f4 : q3.comeB true 0 = false := by decide +kernel
theorem f7 : (q6.gone false).2 = 1 := by decide +kernel
theorem f8 : q7.comeB true 0 = true := by decide +kernel
theorem f9 : q7.comeS true 0 = ⟨#[97]⟩ := by decide +kernel
theorem f10 : q8.has true 0 = false := by decide +kernel
theorem f11 : q8.g true = [⟨#[97]⟩] := by decide +kernel
theorem f12 : (q8.e false).bodies.length = 1 := by decide +kernel
theorem f13 : (q8.lose true 0).doubleOk true 0 = false := by decide +kernel
theorem sh0 : Short q0.n := new_short _ _
theorem sh2 : Short q2.n := PS.short_go sh0
theorem sh3 : Short q3.n := PS.short_flip sh2 _ _
theorem sh4 : Short q4.n := PS.short_come sh3 _
theorem sh7 : Short q7.n := PS.short_go (s := q6) sh4
theorem sh8 : Short q8.n := PS.short_come sh7 _
theorem g3 : (q3.g true).length = 0 := by decide +kernel
theorem g7 : (q7.g true).length = 0 := by decide +kernel
theorem Env.top {B : Nat} {w : World} (h : Env B w) : Env w.heap.size w := ⟨h.tab, h.err, Nat.lt_of_lt_of_le h.t h.le, Nat.lt_of_lt_of_le h.e h.le, Nat.le_refl _⟩
set_option maxRecDepth 100000 in
set_option maxHeartbeats 4000000 in
theorem awake_any {B : Nat} (w : World) (hv : Env B w) : Calls Tryd.prog 9 #[] w fun e w' => e = .returned (.bool true) ∧ Below w.heap.size w w' := by
  have HV := Lib.hid hv.top
  clear hv
  go_enter Tryd.func9, Tryd.ntmps9
  go_wp2_with fail
  refine (stand_new 1 0 4 9 2 9 rfl w _ (Below.refl _ _) HV.out).mono ?_
  rintro e w1 ⟨p, rfl, h1⟩
  have H1 := Lib.hid (show Stand w p q0 w1 from h1)
  clear h1
  go_wp2_with fail
  refine (H1.out.send false ba).mono ?_
  rw [f1]
  rintro e w2 ⟨rfl, h2⟩
  have H2 := Lib.hid (show Stand w p q1 w2 from h2)
  clear h2
  go_wp2_with fail
  refine (H2.out.go false).mono ?_
  rw [f2]
  rintro e w3 ⟨rfl, h3⟩
  have H3 := Lib.hid (show Stand w p q2 w3 from h3)
  clear h3
  go_wp2_with fail
  refine (H3.out.flip true 0 50 sh2).mono ?_
  rw [f3]
  rintro e w4 ⟨rfl, h4⟩
  have H4 := Lib.hid (show Stand w p q3 w4 from h4)
  clear h4
  go_wp2_with fail
  refine (H4.out.come true 0 sh3 (by rw [g3]; omega)).mono ?_
  rw [f4]
  generalize q3.comeS true 0 = sx
  rintro e w5 ⟨rfl, h5⟩
  have H5 := Lib.hid (show Stand w p q4 w5 from h5)
  clear h5
  go_wp2_with fail
  refine (H5.out.tick false).mono ?_
  rintro e w6 ⟨rfl, h6⟩
  have H6 := Lib.hid (show Stand w p q5 w6 from h6)
  clear h6
  go_wp2_with fail
  refine (H6.out.tick false).mono ?_
  rintro e w7 ⟨rfl, h7⟩
  have H7 := Lib.hid (show Stand w p q6 w7 from h7)
  clear h7
  go_wp2_with fail
  refine (H7.out.go false).mono ?_
  rw [f7]
  rintro e w8 ⟨rfl, h8⟩
  have H8 := Lib.hid (show Stand w p q7 w8 from h8)
  clear h8
  go_wp2_with fail
  refine (H8.out.come true 0 sh7 (by rw [g7]; omega)).mono ?_
  rw [f8, f9]
  rintro e w9 ⟨rfl, h9⟩
  have H9 := Lib.hid (show Stand w p q8 w9 from h9)
  clear h9
  go_wp2_with fail
  refine (H9.out.look true 0).mono ?_
  rw [f10]
  generalize q8.look true 0 = sy
  rintro e w10 ⟨rfl, h10⟩
  have H10 := Lib.hid h10
  clear h10
  go_wp2_with fail
  refine (H10.out.got true (by rw [f11]; decide)).mono ?_
  rw [f11]
  rintro e w11 ⟨A, c, G, rfl, hv11, h11⟩
  have hc := hv11.at (j := 0) rfl
  obtain ⟨g, o, rfl, _, _, hc⟩ := hc
  rw [Nat.add_zero] at hc
  have H11 := Lib.hid h11
  clear h11 hv11
  go_wp2_with fail
  refine (H11.out.waiting false).mono ?_
  rw [f12]
  rintro e w12 ⟨rfl, rfl⟩
  go_wp2_with fail
  refine (send_no _ 2 rfl _ _).mono ?_
  rintro e w12 ⟨rfl, rfl⟩
  go_wp2_with fail
  refine (H11.out.lose true 0).mono ?_
  rw [f10]
  rintro e w13 ⟨rfl, h13⟩
  have H13 := Lib.hid h13
  clear h13
  go_wp2_with fail
  refine (H13.out.double true 0).mono ?_
  rw [f13]
  rintro e w14 ⟨rfl, h14⟩
  have H14 := Lib.hid h14
  clear h14
  go_wp2_with fail
  go_ret
  exact ⟨rfl, H14.out.below⟩
end Go.Proofs.YtihhflajkohibaaDoor.Pipe
