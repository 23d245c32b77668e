/- Layer 8: the statements' awake returns true. No conditions. -/
import Derived.Test.YtndiclkfincbgaaNetFlip
namespace Go.Proofs.Ytndiclkfincbgaa.Net
set_option linter.unusedSimpArgs false
set_option linter.unusedVariables false
open Go.RowKit
def ba (b : UInt8) : ByteArray := ⟨#[b]⟩
/-- a net that the call made -/
structure Stand (w0 : World) (p : Nat) (s : NS) (F : List Nat) (w : World) : Prop where
  net : NetIs w p F s
  new : ∀ k, k ∈ F → w0.heap.size ≤ k
  below : Below w0.heap.size w0 w
section
variable {w0 w w' : World} {p : Nat} {s s' : NS} {F F' : List Nat}
theorem Stand.step (h : Stand w0 p s F w) (hn : NetIs w' p F' s') (ht : Turns F F' w w') : Stand w0 p s' F' w' := by
  obtain ⟨k1, k2⟩ := ht.below (B := w0.heap.size) h.below.size h.new
  exact ⟨hn, k2, h.below.trans k1⟩
theorem Stand.after (h : Stand w0 p s F w) (hn : NetIs w' p F s) (hb : Below w.heap.size w w') : Stand w0 p s F w' := ⟨hn, h.new, h.below.trans (hb.mono h.below.size)⟩
end
def s0 : NS := new 2 2
def s1 : NS := s0.send 0 1 (ba 97)
def s2 : NS := s1.send 0 1 (ba 98)
def s3 : NS := s2.send 0 1 (ba 99)
def s4 : NS := s3.double 0 1 0
def s5 : NS := s4.deliver 0 1 0
def s6 : NS := s5.double 0 1 0
def s7 : NS := s6.flip 0 1 0 1
set_option maxRecDepth 100000 in
set_option maxHeartbeats 4000000 in
theorem awake_any (w : World) : Calls Try.prog 10 #[] w fun e w' => e = .returned (.bool true) ∧ Below w.heap.size w w' := by
  go_enter Try.func10, Try.ntmps10
  go_wp2_with fail
  refine (new_any 2 2 _).mono ?_
  rintro e w1 ⟨p, F, rfl, hn, hF, hb⟩
  have HS := Lib.hid (show Stand w p s0 F w1 from ⟨hn, hF, hb⟩)
  clear hn hF hb
  go_wp2_with fail
  refine (quiet_any HS.out.net).mono ?_
  rintro e w2 ⟨b, rfl, hq, hn, hb⟩
  obtain rfl : b = true := hq.2 fun _ _ => rfl
  have HS := Lib.hid (HS.out.after hn hb)
  clear hn hb hq
  go_wp2_with fail
  refine (send_any HS.out.net 0 1 (ba 97)).mono ?_
  rintro e w3 ⟨rfl, F3, hn, ht⟩
  rw [show s0.sendOk 0 1 = true from by rfl]
  have HS := Lib.hid (HS.out.step hn ht)
  clear hn ht
  go_wp2_with fail
  refine (send_any (show NetIs _ p _ s1 from HS.out.net) 0 1 (ba 98)).mono ?_
  rintro e w4 ⟨rfl, F4, hn, ht⟩
  rw [show s1.sendOk 0 1 = true from by rfl]
  have HS := Lib.hid (HS.out.step hn ht)
  clear hn ht
  go_wp2_with fail
  refine (send_any (show NetIs _ p _ s2 from HS.out.net) 0 1 (ba 99)).mono ?_
  rintro e w5 ⟨rfl, F5, hn, ht⟩
  rw [show s2.sendOk 0 1 = false from by rfl]
  have HS := Lib.hid (HS.out.step hn ht)
  clear hn ht
  go_wp2_with fail
  refine (look_any (show NetIs _ p _ s3 from HS.out.net) 0 1 1).mono ?_
  rintro e w6 ⟨rfl, F6, hn, ht⟩
  rw [show s3.look 0 1 1 = ba 98 from by rfl]
  rw [show s3.isAt 0 1 1 = true from by rfl]
  have HS := Lib.hid (HS.out.step hn ht)
  clear hn ht
  go_wp2_with fail
  refine (double_any (show NetIs _ p _ s3 from HS.out.net) 0 1 0).mono ?_
  rintro e w7 ⟨rfl, F7, hn, ht⟩
  rw [show s3.doubleOk 0 1 0 = false from by rfl]
  have HS := Lib.hid (HS.out.step hn ht)
  clear hn ht
  go_wp2_with fail
  refine (deliver_any (show NetIs _ p _ s4 from HS.out.net) 0 1 0).mono ?_
  rintro e w8 ⟨rfl, F8, hn, ht⟩
  rw [show s4.look 0 1 0 = ba 97 from by rfl]
  rw [show s4.isAt 0 1 0 = true from by rfl]
  have HS := Lib.hid (HS.out.step hn ht)
  clear hn ht
  go_wp2_with fail
  refine (double_any (show NetIs _ p _ s5 from HS.out.net) 0 1 0).mono ?_
  rintro e w9 ⟨rfl, F9, hn, ht⟩
  rw [show s5.doubleOk 0 1 0 = true from by rfl]
  have HS := Lib.hid (HS.out.step hn ht)
  clear hn ht
  go_wp2_with fail
  refine (flip_yes (show NetIs _ p _ s6 from HS.out.net) 0 1 0 1 (by rfl) (by decide)).mono ?_
  rintro e w10 ⟨rfl, F10, hn, ht⟩
  have HS := Lib.hid (HS.out.step hn ht)
  clear hn ht
  go_wp2_with fail
  refine (look_any (show NetIs _ p _ s7 from HS.out.net) 0 1 0).mono ?_
  rintro e w11 ⟨rfl, F11, hn, ht⟩
  rw [show s7.look 0 1 0 = ba 96 from by rfl]
  rw [show s7.isAt 0 1 0 = true from by rfl]
  have HS := Lib.hid (HS.out.step hn ht)
  clear hn ht
  unfold ba
  go_wp2_with fail
  refine (count_any (show NetIs _ p _ s7 from HS.out.net) 0 1).mono ?_
  rintro e w12 ⟨rfl, F12, hn, ht⟩
  rw [show (s7.f 0 1).length = 2 from by rfl]
  have HS := Lib.hid (HS.out.step hn ht)
  clear hn ht
  go_wp2_with fail
  refine (count_any (show NetIs _ p _ s7 from HS.out.net) 1 0).mono ?_
  rintro e w13 ⟨rfl, F13, hn, ht⟩
  rw [show (s7.f 1 0).length = 0 from by rfl]
  have HS := Lib.hid (HS.out.step hn ht)
  clear hn ht
  go_wp2_with fail
  refine (quiet_any (show NetIs _ p _ s7 from HS.out.net)).mono ?_
  rintro e w14 ⟨b, rfl, hq, hn, hb⟩
  obtain rfl : b = false := by
    cases b
    · rfl
    · exact absurd (hq.1 rfl 0 1) (by intro h; have h2 := congrArg List.length h; exact absurd h2 (by decide))
  have HS := Lib.hid (HS.out.after hn hb)
  clear hn hb hq
  go_wp2_with fail
  refine (send_any (show NetIs _ p _ s7 from HS.out.net) 0 0 ⟨#[97]⟩).mono ?_
  rintro e w15 ⟨rfl, F15, hn, ht⟩
  rw [show s7.sendOk 0 0 = false from by rfl]
  have HS := Lib.hid (HS.out.step hn ht)
  clear hn ht
  go_wp2_with fail
  go_ret
  exact ⟨rfl, HS.out.below⟩
end Go.Proofs.Ytndiclkfincbgaa.Net
