/- Layer 6: the walk of FrameSizes. Conditions: the table of layer 5 and the variable of package errors are laid; numbers without sign. -/
import Derived.Test.YtffejniibljjeaaDoorFrameZ
namespace Go.Proofs.YtffejniibljjeaaDoor.Frame
set_option linter.unusedSimpArgs false
set_option linter.unusedVariables false
open Go.RowKit
open Go.Proofs.YtffejniibljjeaaDoor
open Go.Proofs.YtffejniibljjeaaDoor.Link (Fr right_is right_any frBox bcell ret_bool empty_size)

set_option maxRecDepth 100000 in
set_option maxHeartbeats 4000000 in
theorem sizes_walk (k ep sq ak : Int) (b s : ByteArray) (kf : Fits ⟨k, ep, sq, ak, b⟩) (hbm : b.size ≤ maxLen) (hsm : s.size ≤ maxLen) (w : World) (ht : TabAt w) (hg : ErrAt w) :
    Calls Tryd.prog 7 #[.agg #[.int .i64 k, .int .i64 ep, .int .u64 sq, .int .u64 ak, .string b], .string s] w fun e w' => e = .returned (.bool true) ∧ Below w.heap.size w w' := by
  have hgp := hg.pos
  have htp := ht.pos
  have hB0 : Below w.heap.size w (w.alloc (.cells #[.int .i64 k, .int .i64 ep, .int .u64 sq, .int .u64 ak, .string b] 25)) := (Below.refl _ _).alloc (Nat.le_refl _) _
  have F0 : (w.alloc (.cells #[.int .i64 k, .int .i64 ep, .int .u64 sq, .int .u64 ak, .string b] 25)).heap[w.heap.size]? = some (.cells #[.int .i64 k, .int .i64 ep, .int .u64 sq, .int .u64 ak, .string b] 25 (0, 0)) := heap_alloc_new w _
  have ht0 := ht.below hB0 htp
  have hg0 := hg.below hB0 hgp
  have f0 := cell_of_block F0 0
  have f1 := cell_of_block F0 1
  have f2 := cell_of_block F0 2
  have f3 := cell_of_block F0 3
  have f4 := cell_of_block F0 4
  simp at f0 f1 f2 f3 f4
  unfold maxLen at hbm
  by_cases hb300 : 300 < b.size
  · have d1 : decide (300 < (b.size : Int)) = true := by simp; omega
    go_enter Tryd.func7, Tryd.ntmps7
    go_wp2_with fail
    refine (awake_any _ ht0 hg0).mono ?_
    rintro e w1 ⟨rfl, hb1⟩
    have hB1 : Below w.heap.size w w1 := hB0.trans (hb1.mono hB0.size)
    have ht1 := ht.below hB1 htp
    have hg1 := hg.below hB1 hgp
    have F1 := (hb1.block _ (lt_of_block F0)).trans F0
    clear f0 f1 f2 f3 f4
    have f0 := cell_of_block F1 0
    have f1 := cell_of_block F1 1
    have f2 := cell_of_block F1 2
    have f3 := cell_of_block F1 3
    have f4 := cell_of_block F1 4
    simp at f0 f1 f2 f3 f4
    go_wp2_with fail
    refine (awake_any _ ht1 hg1).mono ?_
    rintro e w2 ⟨rfl, hb2⟩
    have hB2 : Below w.heap.size w w2 := hB1.trans (hb2.mono hB1.size)
    have ht2 := ht.below hB2 htp
    have hg2 := hg.below hB2 hgp
    go_wp2_with fail
    go_ret
    exact ⟨rfl, hB2⟩
  have d1 : decide (300 < (b.size : Int)) = false := by simp; omega
  by_cases hs300 : 300 < s.size
  · have d2 : decide (300 < (s.size : Int)) = true := by simp; omega
    go_enter Tryd.func7, Tryd.ntmps7
    go_wp2_with fail
    refine (awake_any _ ht0 hg0).mono ?_
    rintro e w1 ⟨rfl, hb1⟩
    have hB1 : Below w.heap.size w w1 := hB0.trans (hb1.mono hB0.size)
    have ht1 := ht.below hB1 htp
    have hg1 := hg.below hB1 hgp
    have F1 := (hb1.block _ (lt_of_block F0)).trans F0
    clear f0 f1 f2 f3 f4
    have f0 := cell_of_block F1 0
    have f1 := cell_of_block F1 1
    have f2 := cell_of_block F1 2
    have f3 := cell_of_block F1 3
    have f4 := cell_of_block F1 4
    simp at f0 f1 f2 f3 f4
    go_wp2_with fail
    refine (awake_any _ ht1 hg1).mono ?_
    rintro e w2 ⟨rfl, hb2⟩
    have hB2 : Below w.heap.size w w2 := hB1.trans (hb2.mono hB1.size)
    have ht2 := ht.below hB2 htp
    have hg2 := hg.below hB2 hgp
    go_wp2_with fail
    go_ret
    exact ⟨rfl, hB2⟩
  have d2 : decide (300 < (s.size : Int)) = false := by simp; omega
  obtain ⟨a, ha⟩ : ∃ a, a = (why s.data.toList).1 := ⟨_, rfl⟩
  obtain ⟨no, hno⟩ : ∃ n, n = (why s.data.toList).2 := ⟨_, rfl⟩
  obtain ⟨k2, ep2, sq2, ak2, b2, hf2⟩ : ∃ k2 ep2 sq2 ak2 b2, (⟨k2, ep2, sq2, ak2, b2⟩ : Fr) = get s.data.toList := ⟨_, _, _, _, _, rfl⟩
  have hle : a ≤ s.size := by rw [ha, ← length_size]; exact why_le _
  have d3 : decide ((a : Int) ≤ (s.size : Int)) = true := by simp; omega
  have d4 : decide ((0 : Int) ≤ (a : Int)) = true := by simp
  have hz : no = 0 → a = 0 := fun h => by rw [ha]; exact why_fine (by rw [← hno]; exact h)
  have HA := Lib.hid ha
  have HNO := Lib.hid hno
  have HF2 := Lib.hid hf2
  have hq : (no == no) = true := beq_self_eq_true _
  clear ha hno hf2
  cases hrf : Fr.right ⟨k, ep, sq, ak, b⟩
  · have HRF := Lib.hid hrf
    clear hrf
    by_cases h0 : no = 0
    all_goals
      first
        | (have e0 := hz h0; subst e0; subst h0)
        | (have d5 : (no != 0) = true := bne_iff_ne.2 h0)
      clear hz
      go_enter Tryd.func7, Tryd.ntmps7
      go_wp2_with fail
      refine (awake_any _ ht0 hg0).mono ?_
      rintro e w1 ⟨rfl, hb1⟩
      have hB1 : Below w.heap.size w w1 := hB0.trans (hb1.mono hB0.size)
      have ht1 := ht.below hB1 htp
      have hg1 := hg.below hB1 hgp
      have F1 := (hb1.block _ (lt_of_block F0)).trans F0
      clear f0 f1 f2 f3 f4
      have f0 := cell_of_block F1 0
      have f1 := cell_of_block F1 1
      have f2 := cell_of_block F1 2
      have f3 := cell_of_block F1 3
      have f4 := cell_of_block F1 4
      simp at f0 f1 f2 f3 f4
      go_wp2_with fail
      refine (Put_no ⟨k, ep, sq, ak, b⟩ HRF.out _).mono ?_
      rintro e w2 ⟨rfl, hb2⟩
      have hB2 : Below w.heap.size w w2 := hB1.trans (hb2.mono hB1.size)
      have ht2 := ht.below hB2 htp
      have hg2 := hg.below hB2 hgp
      have F2 := (hb2.block _ (lt_of_block F1)).trans F1
      clear f0 f1 f2 f3 f4
      have f0 := cell_of_block F2 0
      have f1 := cell_of_block F2 1
      have f2 := cell_of_block F2 2
      have f3 := cell_of_block F2 3
      have f4 := cell_of_block F2 4
      simp at f0 f1 f2 f3 f4
      go_wp2_with fail
      refine (Why_is s _ _ _ hsm HA.out HNO.out ht2 hg2).mono ?_
      rintro e w3 ⟨rfl, hb3⟩
      have hB3 : Below w.heap.size w w3 := hB2.trans (hb3.mono hB2.size)
      have ht3 := ht.below hB3 htp
      have hg3 := hg.below hB3 hgp
      have F3 := (hb3.block _ (lt_of_block F2)).trans F2
      clear f0 f1 f2 f3 f4
      have f0 := cell_of_block F3 0
      have f1 := cell_of_block F3 1
      have f2 := cell_of_block F3 2
      have f3 := cell_of_block F3 3
      have f4 := cell_of_block F3 4
      simp at f0 f1 f2 f3 f4
      go_wp2_with fail
      refine (Get_is s ⟨k2, ep2, sq2, ak2, b2⟩ _ _ hsm HF2.out HNO.out ht3 hg3).mono ?_
      rintro e w4 ⟨rfl, hb4⟩
      unfold Link.Fr.val
      have hB4 : Below w.heap.size w w4 := hB3.trans (hb4.mono hB3.size)
      have ht4 := ht.below hB4 htp
      have hg4 := hg.below hB4 hgp
      have F4 := (hb4.block _ (lt_of_block F3)).trans F3
      clear f0 f1 f2 f3 f4
      have f0 := cell_of_block F4 0
      have f1 := cell_of_block F4 1
      have f2 := cell_of_block F4 2
      have f3 := cell_of_block F4 3
      have f4 := cell_of_block F4 4
      simp at f0 f1 f2 f3 f4
      have hlt4 := lt_of_block F4
      go_wp2_with fail
      go_ret
      exact ⟨rfl, hB4.alloc hB4.size _⟩
  · obtain ⟨S, hS⟩ : ∃ S : ByteArray, S = ⟨(put ⟨k, ep, sq, ak, b⟩).toArray⟩ := ⟨_, rfl⟩
    have hSs : S.size = 27 + b.size := by rw [hS, ba_size, put_length]
    have d6 : ((S.size : Int) == 27 + (b.size : Int)) = true := by rw [hSs]; simp
    have HRF := Lib.hid hrf
    have HS := Lib.hid hS
    clear hrf hS hSs
    by_cases h0 : no = 0
    all_goals
      first
        | (have e0 := hz h0; subst e0; subst h0)
        | (have d5 : (no != 0) = true := bne_iff_ne.2 h0)
      clear hz
      go_enter Tryd.func7, Tryd.ntmps7
      go_wp2_with fail
      refine (awake_any _ ht0 hg0).mono ?_
      rintro e w1 ⟨rfl, hb1⟩
      have hB1 : Below w.heap.size w w1 := hB0.trans (hb1.mono hB0.size)
      have ht1 := ht.below hB1 htp
      have hg1 := hg.below hB1 hgp
      have F1 := (hb1.block _ (lt_of_block F0)).trans F0
      clear f0 f1 f2 f3 f4
      have f0 := cell_of_block F1 0
      have f1 := cell_of_block F1 1
      have f2 := cell_of_block F1 2
      have f3 := cell_of_block F1 3
      have f4 := cell_of_block F1 4
      simp at f0 f1 f2 f3 f4
      go_wp2_with fail
      refine (Put_is ⟨k, ep, sq, ak, b⟩ S HRF.out kf HS.out _ ht1).mono ?_
      rintro e w2 ⟨rfl, hb2⟩
      have hB2 : Below w.heap.size w w2 := hB1.trans (hb2.mono hB1.size)
      have ht2 := ht.below hB2 htp
      have hg2 := hg.below hB2 hgp
      have F2 := (hb2.block _ (lt_of_block F1)).trans F1
      clear f0 f1 f2 f3 f4
      have f0 := cell_of_block F2 0
      have f1 := cell_of_block F2 1
      have f2 := cell_of_block F2 2
      have f3 := cell_of_block F2 3
      have f4 := cell_of_block F2 4
      simp at f0 f1 f2 f3 f4
      go_wp2_with fail
      refine (Why_is s _ _ _ hsm HA.out HNO.out ht2 hg2).mono ?_
      rintro e w3 ⟨rfl, hb3⟩
      have hB3 : Below w.heap.size w w3 := hB2.trans (hb3.mono hB2.size)
      have ht3 := ht.below hB3 htp
      have hg3 := hg.below hB3 hgp
      have F3 := (hb3.block _ (lt_of_block F2)).trans F2
      clear f0 f1 f2 f3 f4
      have f0 := cell_of_block F3 0
      have f1 := cell_of_block F3 1
      have f2 := cell_of_block F3 2
      have f3 := cell_of_block F3 3
      have f4 := cell_of_block F3 4
      simp at f0 f1 f2 f3 f4
      go_wp2_with fail
      refine (Get_is s ⟨k2, ep2, sq2, ak2, b2⟩ _ _ hsm HF2.out HNO.out ht3 hg3).mono ?_
      rintro e w4 ⟨rfl, hb4⟩
      unfold Link.Fr.val
      have hB4 : Below w.heap.size w w4 := hB3.trans (hb4.mono hB3.size)
      have ht4 := ht.below hB4 htp
      have hg4 := hg.below hB4 hgp
      have F4 := (hb4.block _ (lt_of_block F3)).trans F3
      clear f0 f1 f2 f3 f4
      have f0 := cell_of_block F4 0
      have f1 := cell_of_block F4 1
      have f2 := cell_of_block F4 2
      have f3 := cell_of_block F4 3
      have f4 := cell_of_block F4 4
      simp at f0 f1 f2 f3 f4
      have hlt4 := lt_of_block F4
      go_wp2_with fail
      go_ret
      exact ⟨rfl, hB4.alloc hB4.size _⟩
end Go.Proofs.YtffejniibljjeaaDoor.Frame
