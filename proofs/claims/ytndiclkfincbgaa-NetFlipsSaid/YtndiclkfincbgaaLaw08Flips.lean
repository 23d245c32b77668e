/- Layer 8: the walk of NetFlips. Conditions: two texts that may be. -/
import Derived.Test.YtndiclkfincbgaaNetLaws
namespace Go.Proofs.Ytndiclkfincbgaa.Net
set_option linter.unusedSimpArgs false
set_option linter.unusedVariables false
open Go.RowKit
/-- three nodes, room for five, and what is on its way from 2 to 1 -/
structure Fl (s : NS) (xs : List ByteArray) : Prop where
  n : s.n = 3
  m : s.m = 5
  f : s.f 2 1 = xs
section
variable {s : NS} {xs : List ByteArray}
theorem Fl.good (h : Fl s xs) : s.good 2 1 = true := by unfold NS.good; rw [h.n]; rfl
theorem Fl.send (h : Fl s xs) (hl : xs.length < 5) (t : ByteArray) : Fl (s.send 2 1 t) (xs ++ [t]) := by
  have e : s.sendOk 2 1 = true := by unfold NS.sendOk; rw [h.good, h.f, h.m]; simpa using hl
  unfold NS.send
  rw [if_pos e, h.f]
  exact ⟨h.n, h.m, NS.set_same _ _ _ _⟩
theorem Fl.at0 {c b : ByteArray} (h : Fl s [c, b]) : s.look 2 1 0 = c ∧ s.look 2 1 1 = b ∧ s.isAt 2 1 0 = true ∧ s.isAt 2 1 1 = true := by
  have h0 : s.isAt 2 1 0 = true := by unfold NS.isAt; rw [h.f]; rfl
  have h1 : s.isAt 2 1 1 = true := by unfold NS.isAt; rw [h.f]; rfl
  refine ⟨?_, ?_, h0, h1⟩
  · unfold NS.look; rw [if_pos h0, h.f]; rfl
  · unfold NS.look; rw [if_pos h1, h.f]; rfl
def turned (z : Bool) (b : ByteArray) (bit : Int) : ByteArray := if z then NS.turn b bit else b
theorem turned_size (z : Bool) (b : ByteArray) (bit : Int) : (turned z b bit).size = b.size := by
  unfold turned; split
  · exact turn_size b bit
  · rfl
theorem turned_twice (z : Bool) (b : ByteArray) (bit : Int) : turned z (turned z b bit) bit = b := by
  unfold turned; split
  · exact turn_turn b bit
  · rfl
theorem Fl.flip {c b : ByteArray} (h : Fl s [c, b]) (bit : Int) (z : Bool) (hz : z = !(b.size == 0)) : s.flipOk 2 1 1 = z ∧ Fl (s.flip 2 1 1 bit) [c, turned z b bit] := by
  obtain ⟨_, h2, _, h4⟩ := h.at0
  have e : s.flipOk 2 1 1 = z := by unfold NS.flipOk; rw [h2, h4, hz]; rfl
  refine ⟨e, ?_⟩
  unfold NS.flip
  rw [e, h2]
  cases z
  · exact h
  · rw [if_pos rfl, h.f]
    exact ⟨h.n, h.m, NS.set_same _ _ _ _⟩
end
theorem getD_at (s : ByteArray) (i : Nat) (h : i < s.size) : s.data.toList.getD i 0 = s[i] := by
  rw [List.getD_eq_getElem?_getD, Array.getElem?_toList, Array.getElem?_eq_getElem (by exact h)]; rfl
theorem bit_is (x : UInt8) (m : Nat) : bits .and .u8 ((x.toNat : Int) / 2 ^ m) 1 = (((x.toNat >>> m) % 2 : Nat) : Int) := by
  have e : (x.toNat : Int) / 2 ^ m = ((x.toNat >>> m : Nat) : Int) := by
    rw [Nat.shiftRight_eq_div_pow]; simp
  have hx := x.toNat_lt
  have hl : x.toNat >>> m < 256 := by rw [Nat.shiftRight_eq_div_pow]; exact Nat.lt_of_le_of_lt (Nat.div_le_self _ _) hx
  rw [e]
  have := u8_and_nat (x.toNat >>> m) 1 hl (by omega)
  rw [show ((1 : Nat) : Int) = 1 from rfl] at this
  rw [this, Nat.and_one_is_mod]
set_option maxRecDepth 100000 in
set_option maxHeartbeats 16000000 in
theorem flips_walk (b c : ByteArray) (bit : Int) (w : World) (hb0 : b.size ≤ maxLen) (hc0 : c.size ≤ maxLen) :
    Calls Try.prog 6 #[.string b, .string c, .int .i64 bit] w fun e w' => e = .returned (.bool true) ∧ Below w.heap.size w w' := by
  unfold maxLen at hb0 hc0
  go_enter Try.func6, Try.ntmps6
  go_wp2_with fail
  refine (new_any 3 5 _).mono ?_
  rintro e w1 ⟨p, F, rfl, hn, hF, hb⟩
  have HS := Lib.hid (show Stand w p (new 3 5) F w1 from ⟨hn, hF, hb⟩)
  clear hn hF hb
  go_wp2_with fail
  refine (awake_any _).mono ?_
  rintro e w2 ⟨rfl, hb2⟩
  have HS := Lib.hid (HS.out.after (HS.out.net.after hb2) hb2)
  clear hb2
  by_cases h1 : 40 < b.size
  · have d1 : decide (40 < (b.size : Int)) = true := by simp; omega
    go_wp2_with fail
    refine (awake_any _).mono ?_
    rintro e w3 ⟨rfl, hb3⟩
    have HS3 := Lib.hid (HS.out.after (HS.out.net.after hb3) hb3)
    clear hb3
    go_wp2_with fail
    go_ret
    exact ⟨rfl, HS3.out.below⟩
  · have d1 : decide (40 < (b.size : Int)) = false := by simp; omega
    by_cases h2 : 40 < c.size
    · have d2 : decide (40 < (c.size : Int)) = true := by simp; omega
      go_wp2_with fail
      refine (awake_any _).mono ?_
      rintro e w3 ⟨rfl, hb3⟩
      have HS3 := Lib.hid (HS.out.after (HS.out.net.after hb3) hb3)
      clear hb3
      go_wp2_with fail
      go_ret
      exact ⟨rfl, HS3.out.below⟩
    · have d2 : decide (40 < (c.size : Int)) = false := by simp; omega
      obtain ⟨z, hz⟩ : ∃ z : Bool, z = !(b.size == 0) := ⟨_, rfl⟩
      have HZ := Lib.hid hz
      have hf0 : Fl (new 3 5) [] := ⟨rfl, rfl, rfl⟩
      have hf1 := hf0.send (by simp) c
      have hf2 := hf1.send (by simp) b
      have HF2 := Lib.hid (show Fl (((new 3 5).send 2 1 c).send 2 1 b) [c, b] from hf2)
      clear hz hf0 hf1 hf2
      go_wp2_with fail
      refine (send_any HS.out.net 2 1 c).mono ?_
      rintro e w3 ⟨rfl, F3, hn, ht⟩
      have HS := Lib.hid (HS.out.step hn ht)
      clear hn ht
      go_wp2_with fail
      refine (send_any HS.out.net 2 1 b).mono ?_
      rintro e w4 ⟨rfl, F4, hn, ht⟩
      have HS := Lib.hid (HS.out.step hn ht)
      clear hn ht
      obtain ⟨s, hs⟩ : ∃ s, ((new 3 5).send 2 1 c).send 2 1 b = s := ⟨_, rfl⟩
      rw [hs] at HS HF2
      clear hs
      go_wp2_with fail
      refine (flip_any HS.out.net 2 1 1 bit (by rw [HF2.out.at0.2.1]; omega)).mono ?_
      rintro e w5 ⟨rfl, F5, hn, ht⟩
      obtain ⟨q1, q2⟩ := HF2.out.flip bit z HZ.out
      rw [q1]
      have HF3 := Lib.hid q2
      have HS := Lib.hid (HS.out.step hn ht)
      clear hn ht q1 q2 HF2
      generalize s.flip 2 1 1 bit = s3 at *
      have hts := turned_size z b bit
      obtain ⟨r, hr⟩ : ∃ r, turned z b bit = r := ⟨_, rfl⟩
      have htt := turned_twice z b bit
      have HRD := Lib.hid hr
      rw [hr] at HF3 hts htt
      have HTT := Lib.hid htt
      have HRS := Lib.hid hts
      clear hr htt hts
      go_wp2_with fail
      refine (look_any HS.out.net 2 1 1).mono ?_
      rintro e w6 ⟨rfl, F6, hn, ht⟩
      rw [HF3.out.at0.2.1, HF3.out.at0.2.2.2]
      have HS := Lib.hid (HS.out.step hn ht)
      clear hn ht
      go_wp2_with fail
      refine (flip_any HS.out.net 2 1 1 bit (by rw [HF3.out.at0.2.1, HRS.out]; omega)).mono ?_
      rintro e w7 ⟨rfl, F7, hn, ht⟩
      obtain ⟨q1, q2⟩ := HF3.out.flip bit z (by rw [HRS.out]; exact HZ.out)
      rw [q1]
      rw [HTT.out] at q2
      have HF4 := Lib.hid q2
      have HS := Lib.hid (HS.out.step hn ht)
      clear hn ht q1 q2 HF3
      generalize s3.flip 2 1 1 bit = s4 at *
      go_wp2_with fail
      refine (look_any HS.out.net 2 1 1).mono ?_
      rintro e w8 ⟨rfl, F8, hn, ht⟩
      rw [HF4.out.at0.2.1, HF4.out.at0.2.2.2]
      have HS := Lib.hid (HS.out.step hn ht)
      clear hn ht
      go_wp2_with fail
      refine (look_any HS.out.net 2 1 0).mono ?_
      rintro e w9 ⟨rfl, F9, hn, ht⟩
      rw [HF4.out.at0.1, HF4.out.at0.2.2.1]
      have HS := Lib.hid (HS.out.step hn ht)
      clear hn ht
      have HBIT := Lib.hid (show z = true → allBits r.data.toList b.data.toList b.size = 1 from fun e => by
        rw [← HRD.out]; unfold turned; rw [if_pos e]
        exact turn_bits b bit (by have := HZ.out; rw [e] at this; simpa using this.symm))
      obtain ⟨n, hn⟩ : ∃ n, b.size = n := ⟨_, rfl⟩
      have hrs := HRS.out
      rw [hn] at hrs h1 hb0 d1
      have HBN := Lib.hid hn
      rw [hn] at HBIT HZ
      clear d1 d2
      go_wp2_with fail
      go_loopw [16, 17] (fun x i wx => ∃ k : Nat, k ≤ n ∧ i = .int .i64 (k : Int) ∧ x = .int .i64 (allBits r.data.toList b.data.toList k : Int) ∧ ∃ q, wx = w9.drewN q) (fun _ i _ => n - (intOf i).toNat)
      case atStart => exact ⟨0, Nat.zero_le _, rfl, rfl, 0, rfl⟩
      case round =>
        obtain ⟨k, hk, rfl, rfl, q, rfl⟩ := hrel
        have hal := allBits_le r.data.toList b.data.toList k
        by_cases hlt : k < n
        · have d1 : decide (k < r.size) = true := by simp; omega
          have d2 : decide (k < n) = true := by simpa using hlt
          have hbl : k < b.size := by rw [HBN.out]; exact hlt
          have hrl : k < r.size := by omega
          have hsu := allBits_succ r.data.toList b.data.toList k
          rw [getD_at r k hrl, getD_at b k hbl] at hsu
          have HSU := Lib.hid hsu
          clear hsu
          go_wp2_with fail
          obtain ⟨C, hC⟩ : ∃ C, allBits r.data.toList b.data.toList k = C := ⟨_, rfl⟩
          rw [hC] at HSU hal ⊢
          clear hC
          obtain ⟨x, hx⟩ : ∃ x, r[k] = x := ⟨_, rfl⟩
          obtain ⟨y, hy⟩ : ∃ y, b[k] = y := ⟨_, rfl⟩
          rw [hx, hy] at HSU
          go_loopw [16, 18] (fun u j wy => ∃ m p, m ≤ 8 ∧ j = .int .i64 ((m : Nat) : Int) ∧ u = .int .i64 ((C + rowBits x y m : Nat) : Int) ∧ wy = w9.drewN p) (fun _ j _ => 8 - (intOf j).toNat)
          case atStart => exact ⟨0, q, by omega, rfl, rfl, rfl⟩
          case round =>
            obtain ⟨m, p9, hm, rfl, rfl, rfl⟩ := hrel
            have hle := rowBits_le x y m
            by_cases hmt : m < 8
            · have d3 : decide ((m : Int) < 8) = true := by simp; omega
              have hs2 := rowBits_succ x y m
              have HS2 := Lib.hid hs2
              clear hs2
              have i0 : (0 : Int) ≤ (k : Int) := by omega
              have i1 : (k : Int) < (n : Int) := by omega
              have i2 : (0 : Int) ≤ (m : Int) := by omega
              have hwk : IntKind.u64.wrap (m : Int) = (m : Int) := by rw [IntKind.wrap_u64]; omega
              have hbx := bit_is x m
              have hby := bit_is y m
              by_cases he : (x.toNat >>> m) % 2 = (y.toNat >>> m) % 2
              · have hs3 := HS2.out
                rw [if_pos he] at hs3
                have d4 : (bits .and .u8 ((x.toNat : Int) / 2 ^ m) 1 != bits .and .u8 ((y.toNat : Int) / 2 ^ m) 1) = false := by rw [hbx, hby, he]; simp
                have HS3 := Lib.hid hs3
                clear hbx hby he hs3
                go_wp2_with fail
                go_quiet (fail)
                go_wp2_with fail
                go_roundw
                case rel => exact ⟨m + 1, _, by omega, by go_num, by rw [HS3.out]; rfl, rfl⟩
                case measure => simp [intOf]; omega
              · have hs3 := HS2.out
                rw [if_neg he] at hs3
                have d4 : (bits .and .u8 ((x.toNat : Int) / 2 ^ m) 1 != bits .and .u8 ((y.toNat : Int) / 2 ^ m) 1) = true := by rw [hbx, hby, bne_iff_ne]; intro h; exact he (Int.ofNat_inj.1 h)
                have HS3 := Lib.hid hs3
                clear hbx hby he hs3
                go_wp2_with fail
                go_quiet (fail)
                go_wp2_with fail
                go_roundw
                case rel => exact ⟨m + 1, _, by omega, by go_num, by rw [HS3.out]; go_num, rfl⟩
                case measure => simp [intOf]; omega
            · obtain rfl : m = 8 := by omega
              go_wp2_with fail
              go_roundw
              case rel => exact ⟨k + 1, by omega, by go_num, by rw [HSU.out], _, rfl⟩
              case measure => simp [intOf]; omega
        · obtain rfl : k = n := by omega
          have d1 : decide (r.size < r.size) = false := by simp
          have hrb : r.size = b.size := HRS.out
          clear hal
          generalize hall : allBits r.data.toList b.data.toList k = C at *
          have HST := Lib.hid (HS.out.after (w' := w9.drewN q) (HS.out.net.drewN q) (below_drewN (Below.refl _ _) q))
          have hem := empty_size b
          rw [hn] at hem
          cases z
          · have hk0 : k = 0 := by have := HZ.out; simpa using this.symm
            have hem2 : b.toList.isEmpty = true := by rw [hem, hk0]; rfl
            have hC : C = 0 := by rw [← hall, hk0]; rfl
            subst hC
            clear hem hall HBIT
            go_wp2_with fail
            refine (count_any HST.out.net 2 1).mono ?_
            rintro e w10 ⟨rfl, F10, hn10, ht10⟩
            rw [HF4.out.f, show [c, b].length = 2 from rfl]
            have HS10 := Lib.hid (HST.out.step hn10 ht10)
            clear hn10 ht10
            go_wp2_with fail
            go_ret
            exact ⟨rfl, HS10.out.below⟩
          · have hk0 : k ≠ 0 := by have := HZ.out; simpa using this.symm
            have hem2 : b.toList.isEmpty = false := by rw [hem]; simpa using hk0
            have hC : C = 1 := HBIT.out rfl
            subst hC
            clear hem hall HBIT hk0
            go_wp2_with fail
            refine (count_any HST.out.net 2 1).mono ?_
            rintro e w10 ⟨rfl, F10, hn10, ht10⟩
            rw [HF4.out.f, show [c, b].length = 2 from rfl]
            have HS10 := Lib.hid (HST.out.step hn10 ht10)
            clear hn10 ht10
            go_wp2_with fail
            go_ret
            exact ⟨rfl, HS10.out.below⟩
end Go.Proofs.Ytndiclkfincbgaa.Net
