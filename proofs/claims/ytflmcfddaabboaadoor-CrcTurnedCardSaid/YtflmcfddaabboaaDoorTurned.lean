/- Layer 5: the walk of CrcTurned. Conditions: the table lies in block 0. -/
import Derived.Test.YtflmcfddaabboaaDoorMixes
namespace Go.Proofs.YtflmcfddaabboaaDoor
open Go.RowKit

theorem xor_part (X : UInt8) (c : BitVec 32) (k : Nat) : bits .xor .u8 (X.toNat : Int) (val c / 2 ^ (8 * k) % 256) = ((X ^^^ Crc.b8 (c.toNat / 2 ^ (8 * k))).toNat : Int) := by
  have e : val c / 2 ^ (8 * k) % 256 = ((Crc.b8 (c.toNat / 2 ^ (8 * k))).toNat : Int) := by
    unfold val
    rw [show ((c.toNat : Int) / 2 ^ (8 * k)) = ((c.toNat / 2 ^ (8 * k) : Nat) : Int) from by simp]
    generalize c.toNat / 2 ^ (8 * k) = y
    simp [Crc.b8]
  rw [e, bv_xor8]
/-- Good of bytes behind which another sum stands -/
theorem good_other (l : List UInt8) (x : BitVec 32) (w : World) (hs : l.length ≤ 300) (hx : x ≠ Crc.sum l) (ht : TabAt w) :
    Calls Tryd.prog 10 #[.string (⟨l.toArray⟩ ++ ⟨(Crc.tail x).toArray⟩)] w fun e w' => e = .returned (.tuple #[.string ⟨#[]⟩, .bool false]) ∧ Below w.heap.size w w' := by
  have hz : (⟨l.toArray⟩ ++ ⟨(Crc.tail x).toArray⟩ : ByteArray).size ≤ maxLen := by
    rw [cat_size, tail_size]
    have : (⟨l.toArray⟩ : ByteArray).size = l.length := rfl
    rw [this]; unfold maxLen; omega
  have h := good_any (⟨l.toArray⟩ ++ ⟨(Crc.tail x).toArray⟩) w hz ht
  have e : (⟨l.toArray⟩ ++ ⟨(Crc.tail x).toArray⟩ : ByteArray).data.toList = l ++ Crc.tail x := by simp
  have hg : Crc.isGood (l ++ Crc.tail x) = false := by rw [Crc.isGood_tail]; exact decide_eq_false hx
  rw [e, Crc.good_not _ hg, hg] at h
  exact h
theorem val_ne {a b : BitVec 32} (h : a ≠ b) : (val a != val b) = true := by
  rw [bne_iff_ne]; intro e; apply h; apply BitVec.eq_of_toNat_eq; unfold val at e; omega
set_option maxHeartbeats 4000000 in
theorem turned_walk (s : ByteArray) (at0 : Int) (c : BitVec 32) (w : World) (hs : s.size ≤ maxLen) (hat0 : -9223372036854775808 ≤ at0 ∧ at0 ≤ 9223372036854775807) (ht : TabAt w) :
    Calls Tryd.prog 5 #[.string s, .int .i64 at0, .int .u32 (val c)] w fun e w' => e = .returned (.bool true) ∧ Below w.heap.size w w' := by
  have hp := ht.pos
  by_cases h : s.size ≤ 300 ∧ 0 ≤ at0 ∧ at0 ≤ (s.size : Int) - 4 ∧ c ≠ 0
  · obtain ⟨h1, h2, h3, h4⟩ := h
    obtain ⟨n, rfl⟩ := Int.eq_ofNat_of_zero_le h2
    have hd1 : decide (300 < (s.size : Int)) = false := by simp; omega
    have hd2 : decide ((s.size : Int) - 4 < (n : Int)) = false := by simp; omega
    have hd3 : (val c == 0) = false := by
      rw [beq_eq_false_iff_ne]; intro h0; apply h4
      apply BitVec.eq_of_toNat_eq
      have : (c.toNat : Int) = 0 := h0
      simp; omega
    have hns : n + 4 ≤ s.size := by omega
    clear hat0
    go_enter Tryd.func5, Tryd.ntmps5
    go_wp2_with fail
    refine (awake_any _ ht).mono ?_
    rintro e w1 ⟨rfl, hb1⟩
    have ht1 := ht.below hb1 hp
    have hp1 := ht1.pos
    obtain ⟨cap, w2, hconv, hb2, hby, hsz⟩ := to_bytes s w1
    have hbw := hb1.trans (hb2.mono hb1.size)
    have hg : w1.heap.size < w2.heap.size := by omega
    have hge : w.heap.size ≤ w1.heap.size := hb1.size
    generalize w1.heap.size = g at *
    go_wp2_with fail
    have HL := Lib.hid (Lib.size_eq s)
    clear hconv
    go_loopw [8] (fun i wr => ∃ k : Nat, k ≤ 4 ∧ i = .int .i64 k ∧ Below w.heap.size w wr ∧ g < wr.heap.size ∧ BytesAt wr g (Crc.turnTo s.data.toList n c k)) (fun i _ => 4 - (intOf i).toNat)
    case atStart => exact ⟨0, Nat.zero_le _, rfl, hbw, hg, hby⟩
    case round =>
      obtain ⟨k, hk, rfl, hbr, hgr, hbyr⟩ := hrel
      by_cases hlt : k < 4
      · have hlen := Crc.turnTo_length s.data.toList n c k
        have hc := hbyr (n + k) (by rw [hlen, ← HL.out]; omega)
        have hc0 := hc.1
        have hc1 := hc.2
        have hset := hbyr.set (i := n + k) (by rw [hlen, ← HL.out]; omega) ((Crc.turnTo s.data.toList n c k).getD (n + k) 0 ^^^ Crc.b8 (c.toNat / 2 ^ (8 * k)))
        rw [show (Crc.turnTo s.data.toList n c k).set (n + k) ((Crc.turnTo s.data.toList n c k).getD (n + k) 0 ^^^ Crc.b8 (c.toNat / 2 ^ (8 * k))) = Crc.turnTo s.data.toList n c (k + 1) from rfl] at hset
        have HS := Lib.hid hset
        generalize (Crc.turnTo s.data.toList n c k).getD (n + k) 0 = X at *
        have HV := Lib.hid (xor_part X c k)
        clear hlen hset hc
        go_wp2_with fail
        go_roundw
        case rel => exact ⟨k + 1, by omega, by go_num, hbr.setCell hge _, by simpa [World.setCell] using hgr, by rw [HV.out]; exact HS.out⟩
        case measure => simp [intOf]; omega
      · obtain rfl : k = 4 := by omega
        have hne := Crc.sum_turned s.data.toList n c (by rw [← HL.out]; exact hns) h4
        have hlen := Crc.turnTo_length s.data.toList n c 4
        have hbk : ∀ w', BytesAt w' g (Crc.turnTo s.data.toList n c 4) → (convert 31 9 (.slice (some ⟨g, 0, none⟩) s.size cap)).run Tryd.prog w' = .ok (.string ⟨(Crc.turnTo s.data.toList n c 4).toArray⟩) w' :=
          fun w' hh => of_bytes hh s.size cap (HL.out.trans hlen.symm)
        have hbd : BytesAt wr.drew g (Crc.turnTo s.data.toList n c 4) := hbyr
        have htr := ht.below hbr hp
        have hsm : (⟨(Crc.turnTo s.data.toList n c 4).toArray⟩ : ByteArray).size ≤ maxLen := by
          rw [Lib.size_eq]; show (Crc.turnTo s.data.toList n c 4).length ≤ _; rw [hlen, ← HL.out]; exact hs
        have hl3 : (Crc.turnTo s.data.toList n c 4).length ≤ 300 := by rw [hlen, ← HL.out]; exact h1
        have hcs : ¬ 9223372036854775807 < (Crc.turnTo s.data.toList n c 4).length + (Crc.tail (Crc.sum s.data.toList)).length := by rw [Crc.tail_length]; omega
        generalize Crc.turnTo s.data.toList n c 4 = M at *
        have HN := Lib.hid hne
        have hvn := val_ne hne
        have HB := Lib.hid hbd
        have HBK := Lib.hid hbk
        clear hlen hne hbyr hbk hbd
        go_wp2_with fail
        go_region_held3 (fun w' => (convert 31 9 (.slice (some ⟨g, 0, none⟩) s.size cap)).run Tryd.prog w' = .ok (.string ⟨M.toArray⟩) w') (first | exact HBK.out _ HB.out | exact HBK.out _ (HB.out.below hb3 hgr) | exact HBK.out _ ((HB.out.below hb3 hgr).below hb4 (Nat.lt_of_lt_of_le hgr hb3.size))) (first | (go_at_call 13; refine (sum_any _ _ (by exact hs) (by exact htr)).mono ?_; rintro e w' ⟨rfl, rfl⟩) | (go_at_call 15; refine (tail_any _ _).mono ?_; rintro e w3 ⟨rfl, hb3⟩) | (go_at_call 10; refine (good_other _ _ _ hl3 (by exact HN.out.symm) (by exact TabAt.below (w := wr.drew) htr hb3 htr.pos)).mono ?_; rintro e w4 ⟨rfl, hb4⟩))
        have hb3' := of_drew hb3
        have hbw3 := hbr.trans (hb3'.mono hbr.size)
        have hbw4 := hbw3.trans (hb4.mono hbw3.size)
        have ht4 := (htr.below hb3' htr.pos).below hb4 (htr.below hb3' htr.pos).pos
        go_wp2_with fail
        refine (sum_any _ _ hsm ht4).mono ?_
        rintro e w5 ⟨rfl, rfl⟩
        go_wp2_with fail
        refine (sum_any s _ hs ht4).mono ?_
        rintro e w5 ⟨rfl, rfl⟩
        go_wp2_with fail
        go_ret
        exact ⟨rfl, hbw4⟩
  · have hc0 : c = 0 → (val c == 0) = true := by rintro rfl; rfl
    have hd : decide (300 < (s.size : Int)) = true ∨ decide (300 < (s.size : Int)) = false ∧ decide (at0 < 0) = true ∨
        decide (300 < (s.size : Int)) = false ∧ decide (at0 < 0) = false ∧ decide ((s.size : Int) - 4 < at0) = true ∨
        decide (300 < (s.size : Int)) = false ∧ decide (at0 < 0) = false ∧ decide ((s.size : Int) - 4 < at0) = false ∧ (val c == 0) = true := by
      by_cases e1 : s.size ≤ 300
      · by_cases e2 : 0 ≤ at0
        · by_cases e3 : at0 ≤ (s.size : Int) - 4
          · have e4 : c = 0 := Classical.byContradiction fun hh => h ⟨e1, e2, e3, hh⟩
            exact .inr (.inr (.inr ⟨by simp; omega, by simp; omega, by simp; omega, hc0 e4⟩))
          · exact .inr (.inr (.inl ⟨by simp; omega, by simp; omega, by simp; omega⟩))
        · exact .inr (.inl ⟨by simp; omega, by simp; omega⟩)
      · exact .inl (by simp; omega)
    clear hc0 h
    have hsz : s.size ≤ 9223372036854775807 := by unfold maxLen at hs; omega
    rcases hd with hd | ⟨hd, hd2⟩ | ⟨hd, hd2, hd3⟩ | ⟨hd, hd2, hd3, hd4⟩
    all_goals
      go_enter Tryd.func5, Tryd.ntmps5
      go_wp2_with fail
      refine (awake_any _ ht).mono ?_
      rintro e w1 ⟨rfl, hb1⟩
      have ht1 := ht.below hb1 hp
      go_wp2_with fail
      refine (awake_any _ ht1).mono ?_
      rintro e w2 ⟨rfl, hb2⟩
      go_wp2
      go_ret
      exact ⟨rfl, hb1.trans (hb2.mono hb1.size)⟩
end Go.Proofs.YtflmcfddaabboaaDoor
