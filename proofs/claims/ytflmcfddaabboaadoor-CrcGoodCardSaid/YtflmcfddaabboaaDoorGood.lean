/- Layer 5: the walk of CrcGood. Conditions: the table lies in block 0. -/
import Derived.Test.YtflmcfddaabboaaDoorJoins
namespace Go.Proofs.YtflmcfddaabboaaDoor
open Go.RowKit

theorem tail_size (x : BitVec 32) : (⟨(Crc.tail x).toArray⟩ : ByteArray).size = 4 := rfl
theorem back (s : ByteArray) (h : Crc.isGood s.data.toList = true) : ∃ g : ByteArray, (⟨(Crc.good s.data.toList).toArray⟩ : ByteArray) = g ∧ g.size ≤ s.size ∧ g ++ ⟨(Crc.tail (Crc.sum g.data.toList)).toArray⟩ = s := by
  refine ⟨_, rfl, ?_, ?_⟩
  · have hb := congrArg List.length (Crc.good_back _ h)
    rw [List.length_append] at hb
    rw [Lib.size_eq, Lib.size_eq s]
    show (Crc.good s.data.toList).length ≤ _
    omega
  · have hb := Crc.good_back _ h
    have e : ∀ a b : List UInt8, (⟨a.toArray⟩ : ByteArray) ++ ⟨b.toArray⟩ = ⟨(a ++ b).toArray⟩ := fun a b => by
      apply ByteArray.ext; simp
    show (⟨(Crc.good s.data.toList).toArray⟩ : ByteArray) ++ ⟨(Crc.tail (Crc.sum (Crc.good s.data.toList))).toArray⟩ = s
    rw [e, hb, Lib.mk_data]
/-- Good of bytes behind which their sum stands -/
theorem good_own (s : ByteArray) (w : World) (hs : s.size ≤ 300) (ht : TabAt w) :
    Calls Tryd.prog 10 #[.string (s ++ ⟨(Crc.tail (Crc.sum s.data.toList)).toArray⟩)] w fun e w' => e = .returned (.tuple #[.string s, .bool true]) ∧ Below w.heap.size w w' := by
  have hz : (s ++ ⟨(Crc.tail (Crc.sum s.data.toList)).toArray⟩ : ByteArray).size ≤ maxLen := by
    rw [cat_size, tail_size]; unfold maxLen; omega
  have h := good_any (s ++ ⟨(Crc.tail (Crc.sum s.data.toList)).toArray⟩) w hz ht
  have e : (s ++ ⟨(Crc.tail (Crc.sum s.data.toList)).toArray⟩ : ByteArray).data.toList = s.data.toList ++ Crc.tail (Crc.sum s.data.toList) := by simp
  rw [e, Crc.good_tail, Crc.isGood_tail, Lib.mk_data, decide_eq_true rfl] at h
  exact h
set_option maxHeartbeats 1000000 in
theorem good_walk (s : ByteArray) (w : World) (hs : s.size ≤ maxLen) (ht : TabAt w) : Calls Tryd.prog 7 #[.string s] w fun e w' => e = .returned (.bool true) ∧ Below w.heap.size w w' := by
  have hp := ht.pos
  by_cases h : s.size ≤ 300
  · have hl : s.size + 4 ≤ 304 := by omega
    have hlen : s.size + (Crc.tail (Crc.sum s.data.toList)).length ≤ 304 := by rw [Crc.tail_length]; omega
    have hr : (s.toList == s.toList) = true := by simp
    go_enter Tryd.func7, Tryd.ntmps7
    go_wp2_with fail
    refine (awake_any _ ht).mono ?_
    rintro e w1 ⟨rfl, hb1⟩
    have ht1 := ht.below hb1 hp
    have hp1 := ht1.pos
    go_wp2_with fail
    refine (sum_any s _ hs ht1).mono ?_
    rintro e w2 ⟨rfl, rfl⟩
    go_wp2_with fail
    refine (tail_any _ _).mono ?_
    rintro e w2 ⟨rfl, hb2⟩
    have ht2 := ht1.below hb2 hp1
    have hp2 := ht2.pos
    go_wp2_with fail
    refine (good_own s _ h ht2).mono ?_
    rintro e w3 ⟨rfl, hb3⟩
    have ht3 := ht2.below hb3 hp2
    have hp3 := ht3.pos
    go_wp2_with fail
    refine (good_any s _ hs ht3).mono ?_
    rintro e w4 ⟨rfl, hb4⟩
    have ht4 := ht3.below hb4 hp3
    have hbb := ((hb1.trans (hb2.mono hb1.size)).trans (hb3.mono (Nat.le_trans hb1.size hb2.size))).trans (hb4.mono (Nat.le_trans (Nat.le_trans hb1.size hb2.size) hb3.size))
    cases hg : Crc.isGood s.data.toList
    · have he := Crc.good_not _ hg
      rw [he]
      clear hg he
      go_wp2_with fail
      go_ret
      exact ⟨rfl, hbb⟩
    · obtain ⟨g, hg1, hg2, hg3⟩ := back s hg
      rw [hg1]
      have hgs : g.size ≤ maxLen := by omega
      have hgs' : g.size ≤ 300 := by omega
      have hsum : g.size + (Crc.tail (Crc.sum g.data.toList)).length ≤ 304 := by rw [Crc.tail_length]; omega
      have H3 := Lib.hid hg3
      clear hg hg1 hg3
      go_wp2_with fail
      refine (sum_any g _ hgs ht4).mono ?_
      rintro e w5 ⟨rfl, rfl⟩
      go_wp2_with fail
      refine (tail_any _ _).mono ?_
      rintro e w5 ⟨rfl, hb5⟩
      have hbc := hbb.trans (hb5.mono hbb.size)
      have hfin : ((g ++ ⟨(Crc.tail (Crc.sum g.data.toList)).toArray⟩ : ByteArray).toList == s.toList) = true := by rw [H3.out]; simp
      go_wp2_with fail
      go_ret
      exact ⟨rfl, hbc⟩
  · have hd : decide (300 < (s.size : Int)) = true := by simp; omega
    go_enter Tryd.func7, Tryd.ntmps7
    go_wp2_with fail
    refine (awake_any _ ht).mono ?_
    rintro e w1 ⟨rfl, hb1⟩
    have ht1 := ht.below hb1 hp
    go_wp2_with fail
    refine (awake_any _ ht1).mono ?_
    rintro e w2 ⟨rfl, hb2⟩
    go_wp2
    go_ret
    exact ⟨rfl, hb1.trans (hb2.mono hb1.size)⟩
end Go.Proofs.YtflmcfddaabboaaDoor
