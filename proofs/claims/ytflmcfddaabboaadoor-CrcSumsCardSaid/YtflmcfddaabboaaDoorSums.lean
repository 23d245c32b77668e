/- Layer 5: the walk of CrcSums. Conditions: the table lies in block 0. -/
import Derived.Test.YtflmcfddaabboaaDoorGood
namespace Go.Proofs.YtflmcfddaabboaaDoor
open Go.RowKit

theorem refSum_any (s : ByteArray) (w : World) (hs : s.size ≤ maxLen) :
    Calls Tryd.prog 12 #[.int .u32 0, .string s] w fun e w' => e = .returned (.int .u32 (val (Crc.sum s.data.toList))) ∧ w = w' := by
  have h := refMore_any 0 s w hs
  rw [show val 0 = 0 from rfl] at h
  exact h
def FinalSum (w : World) (e : Ending) (w' : World) : Prop := e = .returned (.bool true) ∧ Below w.heap.size w w'
set_option maxHeartbeats 2000000 in
theorem sums_walk (c : BitVec 32) (s : ByteArray) (w : World) (hs : s.size ≤ maxLen) (ht : TabAt w) : Calls Tryd.prog 3 #[.int .u32 (val c), .string s] w (FinalSum w) := by
  have hp := ht.pos
  by_cases h : s.size ≤ 300
  · have hrs : (val (Crc.sum s.data.toList) == val (Crc.sum s.data.toList)) = true := by simp
    have hrm : (val (Crc.more c s.data.toList) == val (Crc.more c s.data.toList)) = true := by simp
    by_cases h4 : 4 ≤ s.size
    · obtain ⟨m, hm⟩ : ∃ m, s.size = m + 4 := ⟨s.size - 4, by omega⟩
      have he : (s.size : Int) - 4 = (m : Int) := by omega
      have h1 : (0 : Int) ≤ (m : Int) := by omega
      have h2 : (m : Int) ≤ (s.size : Int) := by omega
      have h2' : m ≤ s.size := by omega
      have h3 : min m s.size ≤ maxLen := by unfold maxLen; omega
      have hd : decide ((4 : Int) ≤ (s.size : Int)) = true := by simp; omega
      have hg := good_test s m hm
      have hx : s.extract 0 m = ⟨(s.data.toList.take m).toArray⟩ := by rw [Lib.extract_eq]; simp
      have hgd : Crc.good s.data.toList = if Crc.isGood s.data.toList then s.data.toList.take m else [] := by
        unfold Crc.good
        rw [show s.data.toList.length - 4 = m from by have : s.data.toList.length = m + 4 := (Lib.size_eq s).symm.trans hm
                                                      omega]
      have hw1 : IntKind.i64.wrap (m : Int) = (m : Int) := IntWalk.i64_in _ (by unfold maxLen at hs; omega)
      have hgr : (⟨(Crc.good s.data.toList).toArray⟩ : ByteArray) = bif Crc.isGood s.data.toList then s.extract 0 m else ⟨#[]⟩ := by
        rw [hgd]
        cases Crc.isGood s.data.toList
        · rfl
        · rw [hx]; rfl
      clear hm h4 hx hgd
      cases hgood : Crc.isGood s.data.toList
      all_goals
        rw [hgood] at hg
        have hga := good_any s
        rw [hgr, hgood] at hga
        simp only [cond_true, cond_false] at hga
        have HGA := Lib.hid hga
        clear hgood hga
        go_enter Tryd.func3, Tryd.ntmps3
        go_wp2_with fail
        refine (awake_any _ ht).mono ?_
        rintro e w1 ⟨rfl, hb1⟩
        have ht1 := ht.below hb1 hp
        have hp1 := ht1.pos
        go_wp2_with fail
        refine (HGA.out _ hs ht1).mono ?_
        rintro e w2 ⟨rfl, hb2⟩
        have ht2 := ht1.below hb2 hp1
        have hp2 := ht2.pos
        have hbb := hb1.trans (hb2.mono hb1.size)
        go_wp2_with fail
        go_region_held3 (fun _ => True) (trivial) (first | (go_at_call 12; refine (refSum_any _ _ (by simpa using h3)).mono ?_; rintro e w' ⟨rfl, rfl⟩) | (go_at_call 11; refine (refTail_any _ _).mono ?_; rintro e w3 ⟨rfl, hb3⟩))
        have hb3' := of_drew hb3
        have ht3 := ht2.below hb3' hp2
        have hp3 := ht3.pos
        have hbc := hbb.trans (hb3'.mono hbb.size)
        go_wp2_with fail
        refine (sum_any s _ hs ht3).mono ?_
        rintro e w4 ⟨rfl, rfl⟩
        go_wp2_with fail
        refine (refSum_any s _ hs).mono ?_
        rintro e w4 ⟨rfl, rfl⟩
        go_wp2_with fail
        refine (more_any c s _ hs ht3).mono ?_
        rintro e w4 ⟨rfl, rfl⟩
        go_wp2_with fail
        refine (refMore_any c s _ hs).mono ?_
        rintro e w4 ⟨rfl, rfl⟩
        go_wp2_with fail
        refine (tail_any c _).mono ?_
        rintro e w4 ⟨rfl, hb4⟩
        have hbd := hbc.trans (hb4.mono hbc.size)
        go_wp2_with fail
        refine (refTail_any c _).mono ?_
        rintro e w5 ⟨rfl, hb5⟩
        have hbe := hbd.trans (hb5.mono hbd.size)
        go_wp2_with fail
        go_ret
        exact ⟨rfl, hbe⟩
    · have hd : decide ((4 : Int) ≤ (s.size : Int)) = false := by simp; omega
      have hgood : Crc.isGood s.data.toList = false := by
        unfold Crc.isGood
        have : s.data.toList.length = s.size := (Lib.size_eq s).symm
        rw [this]; simp; intro h; omega
      have hga := good_any s
      rw [hgood, Crc.good_not _ hgood] at hga
      have HGA := Lib.hid hga
      clear hgood hga
      go_enter Tryd.func3, Tryd.ntmps3
      go_wp2_with fail
      refine (awake_any _ ht).mono ?_
      rintro e w1 ⟨rfl, hb1⟩
      have ht1 := ht.below hb1 hp
      have hp1 := ht1.pos
      go_wp2_with fail
      refine (HGA.out _ hs ht1).mono ?_
      rintro e w2 ⟨rfl, hb2⟩
      have ht2 := ht1.below hb2 hp1
      have hp2 := ht2.pos
      have hbb := hb1.trans (hb2.mono hb1.size)
      go_wp2_with fail
      go_quiet (fail)
      have hbc := below_drewN hbb nq
      have ht3 : TabAt (w2.drewN nq) := ht2
      go_wp2_with fail
      refine (sum_any s _ hs ht3).mono ?_
      rintro e w4 ⟨rfl, rfl⟩
      go_wp2_with fail
      refine (refSum_any s _ hs).mono ?_
      rintro e w4 ⟨rfl, rfl⟩
      go_wp2_with fail
      refine (more_any c s _ hs ht3).mono ?_
      rintro e w4 ⟨rfl, rfl⟩
      go_wp2_with fail
      refine (refMore_any c s _ hs).mono ?_
      rintro e w4 ⟨rfl, rfl⟩
      go_wp2_with fail
      refine (tail_any c _).mono ?_
      rintro e w4 ⟨rfl, hb4⟩
      have hbd := hbc.trans (hb4.mono hbc.size)
      go_wp2_with fail
      refine (refTail_any c _).mono ?_
      rintro e w5 ⟨rfl, hb5⟩
      have hbe := hbd.trans (hb5.mono hbd.size)
      go_wp2_with fail
      go_ret
      exact ⟨rfl, hbe⟩
  · have hd : decide (300 < (s.size : Int)) = true := by simp; omega
    go_enter Tryd.func3, Tryd.ntmps3
    go_wp2_with fail
    refine (awake_any _ ht).mono ?_
    rintro e w1 ⟨rfl, hb1⟩
    have ht1 := ht.below hb1 hp
    go_wp2_with fail
    refine (awake_any _ ht1).mono ?_
    rintro e w2 ⟨rfl, hb2⟩
    go_wp2
    go_ret
    exact ⟨rfl, hb1.trans (hb2.mono hb1.size)⟩
end Go.Proofs.YtflmcfddaabboaaDoor
