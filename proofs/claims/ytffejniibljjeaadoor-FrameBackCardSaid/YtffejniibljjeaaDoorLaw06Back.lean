/- Layer 6: the walk of FrameBack. Conditions: the table of layer 5 and the variable of package errors are laid; numbers without sign. -/
import Derived.Test.YtffejniibljjeaaDoorFrameZ
namespace Go.Proofs.YtffejniibljjeaaDoor.Frame
set_option linter.unusedSimpArgs false
set_option linter.unusedVariables false
open Go.RowKit
open Go.Proofs.YtffejniibljjeaaDoor
open Go.Proofs.YtffejniibljjeaaDoor.Link (Fr right_is right_any frBox bcell ret_bool empty_size)

theorem why_empty : why [] = (0, 61) := by decide
set_option maxRecDepth 100000 in
set_option maxHeartbeats 4000000 in
theorem back_walk (k ep sq ak : Int) (b s : ByteArray) (kf : Fits ⟨k, ep, sq, ak, b⟩) (hbm : b.size ≤ maxLen) (hsm : s.size ≤ maxLen) (w : World) (ht : TabAt w) (hg : ErrAt w) :
    Calls Tryd.prog 5 #[.agg #[.int .i64 k, .int .i64 ep, .int .u64 sq, .int .u64 ak, .string b], .string s] w fun e w' => e = .returned (.bool true) ∧ Below w.heap.size w w' := by
  have hgp := hg.pos
  have htp := ht.pos
  have hB0 : Below w.heap.size w (w.alloc (.cells #[.int .i64 k, .int .i64 ep, .int .u64 sq, .int .u64 ak, .string b] 25)) := (Below.refl _ _).alloc (Nat.le_refl _) _
  have F0 : (w.alloc (.cells #[.int .i64 k, .int .i64 ep, .int .u64 sq, .int .u64 ak, .string b] 25)).heap[w.heap.size]? = some (.cells #[.int .i64 k, .int .i64 ep, .int .u64 sq, .int .u64 ak, .string b] 25 (0, 0)) := heap_alloc_new w _
  have ht0 := ht.below hB0 htp
  have hg0 := hg.below hB0 hgp
  have f0 := cell_of_block F0 0
  have f1 := cell_of_block F0 1
  have f2 := cell_of_block F0 2
  have f3 := cell_of_block F0 3
  have f4 := cell_of_block F0 4
  simp at f0 f1 f2 f3 f4
  unfold maxLen at hbm
  by_cases hb300 : 300 < b.size
  · have d1 : decide (300 < (b.size : Int)) = true := by simp; omega
    go_enter Tryd.func5, Tryd.ntmps5
    go_wp2_with fail
    refine (awake_any _ ht0 hg0).mono ?_
    rintro e w1 ⟨rfl, hb1⟩
    have hB1 : Below w.heap.size w w1 := hB0.trans (hb1.mono hB0.size)
    have ht1 := ht.below hB1 htp
    have hg1 := hg.below hB1 hgp
    have F1 := (hb1.block _ (lt_of_block F0)).trans F0
    clear f0 f1 f2 f3 f4
    have f0 := cell_of_block F1 0
    have f1 := cell_of_block F1 1
    have f2 := cell_of_block F1 2
    have f3 := cell_of_block F1 3
    have f4 := cell_of_block F1 4
    simp at f0 f1 f2 f3 f4
    go_wp2_with fail
    refine (awake_any _ ht1 hg1).mono ?_
    rintro e w2 ⟨rfl, hb2⟩
    have hB2 : Below w.heap.size w w2 := hB1.trans (hb2.mono hB1.size)
    have ht2 := ht.below hB2 htp
    have hg2 := hg.below hB2 hgp
    go_wp2_with fail
    go_ret
    exact ⟨rfl, hB2⟩
  have d1 : decide (300 < (b.size : Int)) = false := by simp; omega
  by_cases hs300 : 300 < s.size
  · have d2 : decide (300 < (s.size : Int)) = true := by simp; omega
    go_enter Tryd.func5, Tryd.ntmps5
    go_wp2_with fail
    refine (awake_any _ ht0 hg0).mono ?_
    rintro e w1 ⟨rfl, hb1⟩
    have hB1 : Below w.heap.size w w1 := hB0.trans (hb1.mono hB0.size)
    have ht1 := ht.below hB1 htp
    have hg1 := hg.below hB1 hgp
    have F1 := (hb1.block _ (lt_of_block F0)).trans F0
    clear f0 f1 f2 f3 f4
    have f0 := cell_of_block F1 0
    have f1 := cell_of_block F1 1
    have f2 := cell_of_block F1 2
    have f3 := cell_of_block F1 3
    have f4 := cell_of_block F1 4
    simp at f0 f1 f2 f3 f4
    go_wp2_with fail
    refine (awake_any _ ht1 hg1).mono ?_
    rintro e w2 ⟨rfl, hb2⟩
    have hB2 : Below w.heap.size w w2 := hB1.trans (hb2.mono hB1.size)
    have ht2 := ht.below hB2 htp
    have hg2 := hg.below hB2 hgp
    go_wp2_with fail
    go_ret
    exact ⟨rfl, hB2⟩
  have d2 : decide (300 < (s.size : Int)) = false := by simp; omega
  obtain ⟨no, hno⟩ : ∃ n, n = (why s.data.toList).2 := ⟨_, rfl⟩
  by_cases h0 : no = 0
  · subst h0
    obtain ⟨k2, ep2, sq2, ak2, b2, hf2⟩ : ∃ k2 ep2 sq2 ak2 b2, (⟨k2, ep2, sq2, ak2, b2⟩ : Fr) = get s.data.toList := ⟨_, _, _, _, _, rfl⟩
    have hr2 : Fr.right ⟨k2, ep2, sq2, ak2, b2⟩ = true := by rw [hf2]; exact right_get hno.symm
    have kf2 : Fits ⟨k2, ep2, sq2, ak2, b2⟩ := by rw [hf2]; unfold get; rw [if_pos hno.symm]; exact fits_parts _
    have hs2 : s = ⟨(put ⟨k2, ep2, sq2, ak2, b2⟩).toArray⟩ := by rw [hf2, put_get hno.symm]
    have HNO := Lib.hid hno
    have HF2 := Lib.hid hf2
    have HR2 := Lib.hid hr2
    have HS2 := Lib.hid hs2
    clear hno hf2 hr2 hs2
    cases hrf : Fr.right ⟨k, ep, sq, ak, b⟩
    · have HRF := Lib.hid hrf
      have hw1 : (61 : Int) = (why (⟨#[]⟩ : ByteArray).data.toList).2 := by rw [show (⟨#[]⟩ : ByteArray).data.toList = [] from rfl, why_empty]
      have hw2 : noFr = get (⟨#[]⟩ : ByteArray).data.toList := (get_none (by rw [← hw1]; decide)).symm
      have HW1 := Lib.hid hw1
      have HW2 := Lib.hid hw2
      clear hrf hw1 hw2
      go_enter Tryd.func5, Tryd.ntmps5
      go_wp2_with fail
      refine (awake_any _ ht0 hg0).mono ?_
      rintro e w1 ⟨rfl, hb1⟩
      have hB1 : Below w.heap.size w w1 := hB0.trans (hb1.mono hB0.size)
      have ht1 := ht.below hB1 htp
      have hg1 := hg.below hB1 hgp
      have F1 := (hb1.block _ (lt_of_block F0)).trans F0
      clear f0 f1 f2 f3 f4
      have f0 := cell_of_block F1 0
      have f1 := cell_of_block F1 1
      have f2 := cell_of_block F1 2
      have f3 := cell_of_block F1 3
      have f4 := cell_of_block F1 4
      simp at f0 f1 f2 f3 f4
      go_wp2_with fail
      refine (Put_no ⟨k, ep, sq, ak, b⟩ HRF.out _).mono ?_
      rintro e w2 ⟨rfl, hb2⟩
      have hB2 : Below w.heap.size w w2 := hB1.trans (hb2.mono hB1.size)
      have ht2 := ht.below hB2 htp
      have hg2 := hg.below hB2 hgp
      have F2 := (hb2.block _ (lt_of_block F1)).trans F1
      clear f0 f1 f2 f3 f4
      have f0 := cell_of_block F2 0
      have f1 := cell_of_block F2 1
      have f2 := cell_of_block F2 2
      have f3 := cell_of_block F2 3
      have f4 := cell_of_block F2 4
      simp at f0 f1 f2 f3 f4
      go_wp2_with fail
      refine (Get_is ⟨#[]⟩ noFr 61 _ (Nat.zero_le _) HW2.out HW1.out ht2 hg2).mono ?_
      rintro e w3 ⟨rfl, hb3⟩
      have hB3 : Below w.heap.size w w3 := hB2.trans (hb3.mono hB2.size)
      have ht3 := ht.below hB3 htp
      have hg3 := hg.below hB3 hgp
      have F3 := (hb3.block _ (lt_of_block F2)).trans F2
      clear f0 f1 f2 f3 f4
      have f0 := cell_of_block F3 0
      have f1 := cell_of_block F3 1
      have f2 := cell_of_block F3 2
      have f3 := cell_of_block F3 3
      have f4 := cell_of_block F3 4
      simp at f0 f1 f2 f3 f4
      unfold Link.Fr.val noFr
      have hal3 : Below w3.heap.size w3 (w3.alloc (.cells #[.int .i64 0, .int .i64 0, .int .u64 0, .int .u64 0, .string ⟨#[]⟩] 25)) := (Below.refl _ _).alloc (Nat.le_refl _) _
      have hB3p : Below w.heap.size w (w3.alloc (.cells #[.int .i64 0, .int .i64 0, .int .u64 0, .int .u64 0, .string ⟨#[]⟩] 25)) := hB3.trans (hal3.mono hB3.size)
      have ht3p := ht.below hB3p htp
      have hg3p := hg.below hB3p hgp
      have F3p := (Below.heap_alloc _ (.cells #[.int .i64 0, .int .i64 0, .int .u64 0, .int .u64 0, .string ⟨#[]⟩] 25) _ (lt_of_block F3)).trans F3
      have G3p : (w3.alloc (.cells #[.int .i64 0, .int .i64 0, .int .u64 0, .int .u64 0, .string ⟨#[]⟩] 25)).heap[w3.heap.size]? = some (.cells #[.int .i64 0, .int .i64 0, .int .u64 0, .int .u64 0, .string ⟨#[]⟩] 25 (0, 0)) := heap_alloc_new w3 _
      clear f0 f1 f2 f3 f4
      have f0 := cell_of_block F3p 0
      have f1 := cell_of_block F3p 1
      have f2 := cell_of_block F3p 2
      have f3 := cell_of_block F3p 3
      have f4 := cell_of_block F3p 4
      simp at f0 f1 f2 f3 f4
      have g0 := cell_of_block G3p 0
      have g1 := cell_of_block G3p 1
      have g2 := cell_of_block G3p 2
      have g3 := cell_of_block G3p 3
      have g4 := cell_of_block G3p 4
      simp at g0 g1 g2 g3 g4
      go_wp2_with fail
      refine (right_is ⟨k, ep, sq, ak, b⟩ false HRF.out _).mono ?_
      rintro e w4 ⟨rfl, hb4⟩
      have hB4 : Below w.heap.size w w4 := hB3p.trans (hb4.mono hB3p.size)
      have ht4 := ht.below hB4 htp
      have hg4 := hg.below hB4 hgp
      have F4 := (hb4.block _ (lt_of_block F3p)).trans F3p
      clear f0 f1 f2 f3 f4
      have f0 := cell_of_block F4 0
      have f1 := cell_of_block F4 1
      have f2 := cell_of_block F4 2
      have f3 := cell_of_block F4 3
      have f4 := cell_of_block F4 4
      simp at f0 f1 f2 f3 f4
      have G4 := (hb4.block _ (lt_of_block G3p)).trans G3p
      clear g0 g1 g2 g3 g4
      have g0 := cell_of_block G4 0
      have g1 := cell_of_block G4 1
      have g2 := cell_of_block G4 2
      have g3 := cell_of_block G4 3
      have g4 := cell_of_block G4 4
      simp at g0 g1 g2 g3 g4
      go_wp2_with fail
      refine (Get_is s ⟨k2, ep2, sq2, ak2, b2⟩ 0 _ hsm HF2.out HNO.out ht4 hg4).mono ?_
      rintro e w5 ⟨rfl, hb5⟩
      have hB5 : Below w.heap.size w w5 := hB4.trans (hb5.mono hB4.size)
      have ht5 := ht.below hB5 htp
      have hg5 := hg.below hB5 hgp
      unfold Link.Fr.val
      have hal5 : Below w5.heap.size w5 (w5.alloc (.cells #[.int .i64 k2, .int .i64 ep2, .int .u64 sq2, .int .u64 ak2, .string b2] 25)) := (Below.refl _ _).alloc (Nat.le_refl _) _
      have hB5p : Below w.heap.size w (w5.alloc (.cells #[.int .i64 k2, .int .i64 ep2, .int .u64 sq2, .int .u64 ak2, .string b2] 25)) := hB5.trans (hal5.mono hB5.size)
      have ht5p := ht.below hB5p htp
      have hg5p := hg.below hB5p hgp
      have H5p : (w5.alloc (.cells #[.int .i64 k2, .int .i64 ep2, .int .u64 sq2, .int .u64 ak2, .string b2] 25)).heap[w5.heap.size]? = some (.cells #[.int .i64 k2, .int .i64 ep2, .int .u64 sq2, .int .u64 ak2, .string b2] 25 (0, 0)) := heap_alloc_new w5 _
      have h0 := cell_of_block H5p 0
      have h1 := cell_of_block H5p 1
      have h2 := cell_of_block H5p 2
      have h3 := cell_of_block H5p 3
      have h4 := cell_of_block H5p 4
      simp at h0 h1 h2 h3 h4
      go_wp2_with fail
      refine (Put_is ⟨k2, ep2, sq2, ak2, b2⟩ s HR2.out kf2 HS2.out _ ht5p).mono ?_
      rintro e w6 ⟨rfl, hb6⟩
      have hB6 : Below w.heap.size w w6 := hB5p.trans (hb6.mono hB5p.size)
      have ht6 := ht.below hB6 htp
      have hg6 := hg.below hB6 hgp
      go_wp2_with fail
      go_ret
      exact ⟨ret_bool (by simp), hB6⟩
    · obtain ⟨S, hS⟩ : ∃ S : ByteArray, S = ⟨(put ⟨k, ep, sq, ak, b⟩).toArray⟩ := ⟨_, rfl⟩
      have hSl : S.data.toList = put ⟨k, ep, sq, ak, b⟩ := by rw [hS]
      have hSs : S.size ≤ maxLen := by
        have h := (right_iff.1 hrf).2.2.1
        rw [hS, ba_size, put_length]
        unfold maxLen
        simp only at h ⊢
        omega
      have hw1 : (0 : Int) = (why S.data.toList).2 := by rw [hSl, why_put _ hrf kf]
      have hw2 : ⟨k, ep, sq, ak, b⟩ = get S.data.toList := by rw [hSl, get_put _ hrf kf]
      have HRF := Lib.hid hrf
      have HS := Lib.hid hS
      have HSS := Lib.hid hSs
      have HW1 := Lib.hid hw1
      have HW2 := Lib.hid hw2
      clear hrf hS hSl hSs hw1 hw2
      go_enter Tryd.func5, Tryd.ntmps5
      go_wp2_with fail
      refine (awake_any _ ht0 hg0).mono ?_
      rintro e w1 ⟨rfl, hb1⟩
      have hB1 : Below w.heap.size w w1 := hB0.trans (hb1.mono hB0.size)
      have ht1 := ht.below hB1 htp
      have hg1 := hg.below hB1 hgp
      have F1 := (hb1.block _ (lt_of_block F0)).trans F0
      clear f0 f1 f2 f3 f4
      have f0 := cell_of_block F1 0
      have f1 := cell_of_block F1 1
      have f2 := cell_of_block F1 2
      have f3 := cell_of_block F1 3
      have f4 := cell_of_block F1 4
      simp at f0 f1 f2 f3 f4
      go_wp2_with fail
      refine (Put_is ⟨k, ep, sq, ak, b⟩ S HRF.out kf HS.out _ ht1).mono ?_
      rintro e w2 ⟨rfl, hb2⟩
      have hB2 : Below w.heap.size w w2 := hB1.trans (hb2.mono hB1.size)
      have ht2 := ht.below hB2 htp
      have hg2 := hg.below hB2 hgp
      have F2 := (hb2.block _ (lt_of_block F1)).trans F1
      clear f0 f1 f2 f3 f4
      have f0 := cell_of_block F2 0
      have f1 := cell_of_block F2 1
      have f2 := cell_of_block F2 2
      have f3 := cell_of_block F2 3
      have f4 := cell_of_block F2 4
      simp at f0 f1 f2 f3 f4
      go_wp2_with fail
      refine (Get_is S ⟨k, ep, sq, ak, b⟩ 0 _ HSS.out HW2.out HW1.out ht2 hg2).mono ?_
      rintro e w3 ⟨rfl, hb3⟩
      have hB3 : Below w.heap.size w w3 := hB2.trans (hb3.mono hB2.size)
      have ht3 := ht.below hB3 htp
      have hg3 := hg.below hB3 hgp
      have F3 := (hb3.block _ (lt_of_block F2)).trans F2
      clear f0 f1 f2 f3 f4
      have f0 := cell_of_block F3 0
      have f1 := cell_of_block F3 1
      have f2 := cell_of_block F3 2
      have f3 := cell_of_block F3 3
      have f4 := cell_of_block F3 4
      simp at f0 f1 f2 f3 f4
      unfold Link.Fr.val
      have hal3 : Below w3.heap.size w3 (w3.alloc (.cells #[.int .i64 k, .int .i64 ep, .int .u64 sq, .int .u64 ak, .string b] 25)) := (Below.refl _ _).alloc (Nat.le_refl _) _
      have hB3p : Below w.heap.size w (w3.alloc (.cells #[.int .i64 k, .int .i64 ep, .int .u64 sq, .int .u64 ak, .string b] 25)) := hB3.trans (hal3.mono hB3.size)
      have ht3p := ht.below hB3p htp
      have hg3p := hg.below hB3p hgp
      have F3p := (Below.heap_alloc _ (.cells #[.int .i64 k, .int .i64 ep, .int .u64 sq, .int .u64 ak, .string b] 25) _ (lt_of_block F3)).trans F3
      have G3p : (w3.alloc (.cells #[.int .i64 k, .int .i64 ep, .int .u64 sq, .int .u64 ak, .string b] 25)).heap[w3.heap.size]? = some (.cells #[.int .i64 k, .int .i64 ep, .int .u64 sq, .int .u64 ak, .string b] 25 (0, 0)) := heap_alloc_new w3 _
      clear f0 f1 f2 f3 f4
      have f0 := cell_of_block F3p 0
      have f1 := cell_of_block F3p 1
      have f2 := cell_of_block F3p 2
      have f3 := cell_of_block F3p 3
      have f4 := cell_of_block F3p 4
      simp at f0 f1 f2 f3 f4
      have g0 := cell_of_block G3p 0
      have g1 := cell_of_block G3p 1
      have g2 := cell_of_block G3p 2
      have g3 := cell_of_block G3p 3
      have g4 := cell_of_block G3p 4
      simp at g0 g1 g2 g3 g4
      go_wp2_with fail
      refine (right_is ⟨k, ep, sq, ak, b⟩ true HRF.out _).mono ?_
      rintro e w4 ⟨rfl, hb4⟩
      have hB4 : Below w.heap.size w w4 := hB3p.trans (hb4.mono hB3p.size)
      have ht4 := ht.below hB4 htp
      have hg4 := hg.below hB4 hgp
      have F4 := (hb4.block _ (lt_of_block F3p)).trans F3p
      clear f0 f1 f2 f3 f4
      have f0 := cell_of_block F4 0
      have f1 := cell_of_block F4 1
      have f2 := cell_of_block F4 2
      have f3 := cell_of_block F4 3
      have f4 := cell_of_block F4 4
      simp at f0 f1 f2 f3 f4
      have G4 := (hb4.block _ (lt_of_block G3p)).trans G3p
      clear g0 g1 g2 g3 g4
      have g0 := cell_of_block G4 0
      have g1 := cell_of_block G4 1
      have g2 := cell_of_block G4 2
      have g3 := cell_of_block G4 3
      have g4 := cell_of_block G4 4
      simp at g0 g1 g2 g3 g4
      go_wp2_with fail
      refine (Get_is s ⟨k2, ep2, sq2, ak2, b2⟩ 0 _ hsm HF2.out HNO.out ht4 hg4).mono ?_
      rintro e w5 ⟨rfl, hb5⟩
      have hB5 : Below w.heap.size w w5 := hB4.trans (hb5.mono hB4.size)
      have ht5 := ht.below hB5 htp
      have hg5 := hg.below hB5 hgp
      unfold Link.Fr.val
      have hal5 : Below w5.heap.size w5 (w5.alloc (.cells #[.int .i64 k2, .int .i64 ep2, .int .u64 sq2, .int .u64 ak2, .string b2] 25)) := (Below.refl _ _).alloc (Nat.le_refl _) _
      have hB5p : Below w.heap.size w (w5.alloc (.cells #[.int .i64 k2, .int .i64 ep2, .int .u64 sq2, .int .u64 ak2, .string b2] 25)) := hB5.trans (hal5.mono hB5.size)
      have ht5p := ht.below hB5p htp
      have hg5p := hg.below hB5p hgp
      have H5p : (w5.alloc (.cells #[.int .i64 k2, .int .i64 ep2, .int .u64 sq2, .int .u64 ak2, .string b2] 25)).heap[w5.heap.size]? = some (.cells #[.int .i64 k2, .int .i64 ep2, .int .u64 sq2, .int .u64 ak2, .string b2] 25 (0, 0)) := heap_alloc_new w5 _
      have h0 := cell_of_block H5p 0
      have h1 := cell_of_block H5p 1
      have h2 := cell_of_block H5p 2
      have h3 := cell_of_block H5p 3
      have h4 := cell_of_block H5p 4
      simp at h0 h1 h2 h3 h4
      go_wp2_with fail
      refine (Put_is ⟨k2, ep2, sq2, ak2, b2⟩ s HR2.out kf2 HS2.out _ ht5p).mono ?_
      rintro e w6 ⟨rfl, hb6⟩
      have hB6 : Below w.heap.size w w6 := hB5p.trans (hb6.mono hB5p.size)
      have ht6 := ht.below hB6 htp
      have hg6 := hg.below hB6 hgp
      go_wp2_with fail
      go_ret
      exact ⟨ret_bool (by simp), hB6⟩
  · have d5 : (no != 0) = true := bne_iff_ne.2 h0
    have hf2 : noFr = get s.data.toList := (get_none (by rw [← hno]; exact h0)).symm
    have HNO := Lib.hid hno
    have HF2 := Lib.hid hf2
    clear hno hf2 h0
    cases hrf : Fr.right ⟨k, ep, sq, ak, b⟩
    · have HRF := Lib.hid hrf
      have hw1 : (61 : Int) = (why (⟨#[]⟩ : ByteArray).data.toList).2 := by rw [show (⟨#[]⟩ : ByteArray).data.toList = [] from rfl, why_empty]
      have hw2 : noFr = get (⟨#[]⟩ : ByteArray).data.toList := (get_none (by rw [← hw1]; decide)).symm
      have HW1 := Lib.hid hw1
      have HW2 := Lib.hid hw2
      clear hrf hw1 hw2
      go_enter Tryd.func5, Tryd.ntmps5
      go_wp2_with fail
      refine (awake_any _ ht0 hg0).mono ?_
      rintro e w1 ⟨rfl, hb1⟩
      have hB1 : Below w.heap.size w w1 := hB0.trans (hb1.mono hB0.size)
      have ht1 := ht.below hB1 htp
      have hg1 := hg.below hB1 hgp
      have F1 := (hb1.block _ (lt_of_block F0)).trans F0
      clear f0 f1 f2 f3 f4
      have f0 := cell_of_block F1 0
      have f1 := cell_of_block F1 1
      have f2 := cell_of_block F1 2
      have f3 := cell_of_block F1 3
      have f4 := cell_of_block F1 4
      simp at f0 f1 f2 f3 f4
      go_wp2_with fail
      refine (Put_no ⟨k, ep, sq, ak, b⟩ HRF.out _).mono ?_
      rintro e w2 ⟨rfl, hb2⟩
      have hB2 : Below w.heap.size w w2 := hB1.trans (hb2.mono hB1.size)
      have ht2 := ht.below hB2 htp
      have hg2 := hg.below hB2 hgp
      have F2 := (hb2.block _ (lt_of_block F1)).trans F1
      clear f0 f1 f2 f3 f4
      have f0 := cell_of_block F2 0
      have f1 := cell_of_block F2 1
      have f2 := cell_of_block F2 2
      have f3 := cell_of_block F2 3
      have f4 := cell_of_block F2 4
      simp at f0 f1 f2 f3 f4
      go_wp2_with fail
      refine (Get_is ⟨#[]⟩ noFr 61 _ (Nat.zero_le _) HW2.out HW1.out ht2 hg2).mono ?_
      rintro e w3 ⟨rfl, hb3⟩
      have hB3 : Below w.heap.size w w3 := hB2.trans (hb3.mono hB2.size)
      have ht3 := ht.below hB3 htp
      have hg3 := hg.below hB3 hgp
      have F3 := (hb3.block _ (lt_of_block F2)).trans F2
      clear f0 f1 f2 f3 f4
      have f0 := cell_of_block F3 0
      have f1 := cell_of_block F3 1
      have f2 := cell_of_block F3 2
      have f3 := cell_of_block F3 3
      have f4 := cell_of_block F3 4
      simp at f0 f1 f2 f3 f4
      unfold Link.Fr.val noFr
      have hal3 : Below w3.heap.size w3 (w3.alloc (.cells #[.int .i64 0, .int .i64 0, .int .u64 0, .int .u64 0, .string ⟨#[]⟩] 25)) := (Below.refl _ _).alloc (Nat.le_refl _) _
      have hB3p : Below w.heap.size w (w3.alloc (.cells #[.int .i64 0, .int .i64 0, .int .u64 0, .int .u64 0, .string ⟨#[]⟩] 25)) := hB3.trans (hal3.mono hB3.size)
      have ht3p := ht.below hB3p htp
      have hg3p := hg.below hB3p hgp
      have F3p := (Below.heap_alloc _ (.cells #[.int .i64 0, .int .i64 0, .int .u64 0, .int .u64 0, .string ⟨#[]⟩] 25) _ (lt_of_block F3)).trans F3
      have G3p : (w3.alloc (.cells #[.int .i64 0, .int .i64 0, .int .u64 0, .int .u64 0, .string ⟨#[]⟩] 25)).heap[w3.heap.size]? = some (.cells #[.int .i64 0, .int .i64 0, .int .u64 0, .int .u64 0, .string ⟨#[]⟩] 25 (0, 0)) := heap_alloc_new w3 _
      clear f0 f1 f2 f3 f4
      have f0 := cell_of_block F3p 0
      have f1 := cell_of_block F3p 1
      have f2 := cell_of_block F3p 2
      have f3 := cell_of_block F3p 3
      have f4 := cell_of_block F3p 4
      simp at f0 f1 f2 f3 f4
      have g0 := cell_of_block G3p 0
      have g1 := cell_of_block G3p 1
      have g2 := cell_of_block G3p 2
      have g3 := cell_of_block G3p 3
      have g4 := cell_of_block G3p 4
      simp at g0 g1 g2 g3 g4
      go_wp2_with fail
      refine (right_is ⟨k, ep, sq, ak, b⟩ false HRF.out _).mono ?_
      rintro e w4 ⟨rfl, hb4⟩
      have hB4 : Below w.heap.size w w4 := hB3p.trans (hb4.mono hB3p.size)
      have ht4 := ht.below hB4 htp
      have hg4 := hg.below hB4 hgp
      have F4 := (hb4.block _ (lt_of_block F3p)).trans F3p
      clear f0 f1 f2 f3 f4
      have f0 := cell_of_block F4 0
      have f1 := cell_of_block F4 1
      have f2 := cell_of_block F4 2
      have f3 := cell_of_block F4 3
      have f4 := cell_of_block F4 4
      simp at f0 f1 f2 f3 f4
      have G4 := (hb4.block _ (lt_of_block G3p)).trans G3p
      clear g0 g1 g2 g3 g4
      have g0 := cell_of_block G4 0
      have g1 := cell_of_block G4 1
      have g2 := cell_of_block G4 2
      have g3 := cell_of_block G4 3
      have g4 := cell_of_block G4 4
      simp at g0 g1 g2 g3 g4
      go_wp2_with fail
      refine (Get_is s noFr no _ hsm HF2.out HNO.out ht4 hg4).mono ?_
      rintro e w5 ⟨rfl, hb5⟩
      have hB5 : Below w.heap.size w w5 := hB4.trans (hb5.mono hB4.size)
      have ht5 := ht.below hB5 htp
      have hg5 := hg.below hB5 hgp
      unfold Link.Fr.val noFr
      have hal5 : Below w5.heap.size w5 (w5.alloc (.cells #[.int .i64 0, .int .i64 0, .int .u64 0, .int .u64 0, .string ⟨#[]⟩] 25)) := (Below.refl _ _).alloc (Nat.le_refl _) _
      have hB5p : Below w.heap.size w (w5.alloc (.cells #[.int .i64 0, .int .i64 0, .int .u64 0, .int .u64 0, .string ⟨#[]⟩] 25)) := hB5.trans (hal5.mono hB5.size)
      have ht5p := ht.below hB5p htp
      have hg5p := hg.below hB5p hgp
      have H5p : (w5.alloc (.cells #[.int .i64 0, .int .i64 0, .int .u64 0, .int .u64 0, .string ⟨#[]⟩] 25)).heap[w5.heap.size]? = some (.cells #[.int .i64 0, .int .i64 0, .int .u64 0, .int .u64 0, .string ⟨#[]⟩] 25 (0, 0)) := heap_alloc_new w5 _
      have h0 := cell_of_block H5p 0
      have h1 := cell_of_block H5p 1
      have h2 := cell_of_block H5p 2
      have h3 := cell_of_block H5p 3
      have h4 := cell_of_block H5p 4
      simp at h0 h1 h2 h3 h4
      go_wp2_with fail
      go_ret
      exact ⟨ret_bool (by simp), hB5p⟩
    · obtain ⟨S, hS⟩ : ∃ S : ByteArray, S = ⟨(put ⟨k, ep, sq, ak, b⟩).toArray⟩ := ⟨_, rfl⟩
      have hSl : S.data.toList = put ⟨k, ep, sq, ak, b⟩ := by rw [hS]
      have hSs : S.size ≤ maxLen := by
        have h := (right_iff.1 hrf).2.2.1
        rw [hS, ba_size, put_length]
        unfold maxLen
        simp only at h ⊢
        omega
      have hw1 : (0 : Int) = (why S.data.toList).2 := by rw [hSl, why_put _ hrf kf]
      have hw2 : ⟨k, ep, sq, ak, b⟩ = get S.data.toList := by rw [hSl, get_put _ hrf kf]
      have HRF := Lib.hid hrf
      have HS := Lib.hid hS
      have HSS := Lib.hid hSs
      have HW1 := Lib.hid hw1
      have HW2 := Lib.hid hw2
      clear hrf hS hSl hSs hw1 hw2
      go_enter Tryd.func5, Tryd.ntmps5
      go_wp2_with fail
      refine (awake_any _ ht0 hg0).mono ?_
      rintro e w1 ⟨rfl, hb1⟩
      have hB1 : Below w.heap.size w w1 := hB0.trans (hb1.mono hB0.size)
      have ht1 := ht.below hB1 htp
      have hg1 := hg.below hB1 hgp
      have F1 := (hb1.block _ (lt_of_block F0)).trans F0
      clear f0 f1 f2 f3 f4
      have f0 := cell_of_block F1 0
      have f1 := cell_of_block F1 1
      have f2 := cell_of_block F1 2
      have f3 := cell_of_block F1 3
      have f4 := cell_of_block F1 4
      simp at f0 f1 f2 f3 f4
      go_wp2_with fail
      refine (Put_is ⟨k, ep, sq, ak, b⟩ S HRF.out kf HS.out _ ht1).mono ?_
      rintro e w2 ⟨rfl, hb2⟩
      have hB2 : Below w.heap.size w w2 := hB1.trans (hb2.mono hB1.size)
      have ht2 := ht.below hB2 htp
      have hg2 := hg.below hB2 hgp
      have F2 := (hb2.block _ (lt_of_block F1)).trans F1
      clear f0 f1 f2 f3 f4
      have f0 := cell_of_block F2 0
      have f1 := cell_of_block F2 1
      have f2 := cell_of_block F2 2
      have f3 := cell_of_block F2 3
      have f4 := cell_of_block F2 4
      simp at f0 f1 f2 f3 f4
      go_wp2_with fail
      refine (Get_is S ⟨k, ep, sq, ak, b⟩ 0 _ HSS.out HW2.out HW1.out ht2 hg2).mono ?_
      rintro e w3 ⟨rfl, hb3⟩
      have hB3 : Below w.heap.size w w3 := hB2.trans (hb3.mono hB2.size)
      have ht3 := ht.below hB3 htp
      have hg3 := hg.below hB3 hgp
      have F3 := (hb3.block _ (lt_of_block F2)).trans F2
      clear f0 f1 f2 f3 f4
      have f0 := cell_of_block F3 0
      have f1 := cell_of_block F3 1
      have f2 := cell_of_block F3 2
      have f3 := cell_of_block F3 3
      have f4 := cell_of_block F3 4
      simp at f0 f1 f2 f3 f4
      unfold Link.Fr.val
      have hal3 : Below w3.heap.size w3 (w3.alloc (.cells #[.int .i64 k, .int .i64 ep, .int .u64 sq, .int .u64 ak, .string b] 25)) := (Below.refl _ _).alloc (Nat.le_refl _) _
      have hB3p : Below w.heap.size w (w3.alloc (.cells #[.int .i64 k, .int .i64 ep, .int .u64 sq, .int .u64 ak, .string b] 25)) := hB3.trans (hal3.mono hB3.size)
      have ht3p := ht.below hB3p htp
      have hg3p := hg.below hB3p hgp
      have F3p := (Below.heap_alloc _ (.cells #[.int .i64 k, .int .i64 ep, .int .u64 sq, .int .u64 ak, .string b] 25) _ (lt_of_block F3)).trans F3
      have G3p : (w3.alloc (.cells #[.int .i64 k, .int .i64 ep, .int .u64 sq, .int .u64 ak, .string b] 25)).heap[w3.heap.size]? = some (.cells #[.int .i64 k, .int .i64 ep, .int .u64 sq, .int .u64 ak, .string b] 25 (0, 0)) := heap_alloc_new w3 _
      clear f0 f1 f2 f3 f4
      have f0 := cell_of_block F3p 0
      have f1 := cell_of_block F3p 1
      have f2 := cell_of_block F3p 2
      have f3 := cell_of_block F3p 3
      have f4 := cell_of_block F3p 4
      simp at f0 f1 f2 f3 f4
      have g0 := cell_of_block G3p 0
      have g1 := cell_of_block G3p 1
      have g2 := cell_of_block G3p 2
      have g3 := cell_of_block G3p 3
      have g4 := cell_of_block G3p 4
      simp at g0 g1 g2 g3 g4
      go_wp2_with fail
      refine (right_is ⟨k, ep, sq, ak, b⟩ true HRF.out _).mono ?_
      rintro e w4 ⟨rfl, hb4⟩
      have hB4 : Below w.heap.size w w4 := hB3p.trans (hb4.mono hB3p.size)
      have ht4 := ht.below hB4 htp
      have hg4 := hg.below hB4 hgp
      have F4 := (hb4.block _ (lt_of_block F3p)).trans F3p
      clear f0 f1 f2 f3 f4
      have f0 := cell_of_block F4 0
      have f1 := cell_of_block F4 1
      have f2 := cell_of_block F4 2
      have f3 := cell_of_block F4 3
      have f4 := cell_of_block F4 4
      simp at f0 f1 f2 f3 f4
      have G4 := (hb4.block _ (lt_of_block G3p)).trans G3p
      clear g0 g1 g2 g3 g4
      have g0 := cell_of_block G4 0
      have g1 := cell_of_block G4 1
      have g2 := cell_of_block G4 2
      have g3 := cell_of_block G4 3
      have g4 := cell_of_block G4 4
      simp at g0 g1 g2 g3 g4
      go_wp2_with fail
      refine (Get_is s noFr no _ hsm HF2.out HNO.out ht4 hg4).mono ?_
      rintro e w5 ⟨rfl, hb5⟩
      have hB5 : Below w.heap.size w w5 := hB4.trans (hb5.mono hB4.size)
      have ht5 := ht.below hB5 htp
      have hg5 := hg.below hB5 hgp
      unfold Link.Fr.val noFr
      have hal5 : Below w5.heap.size w5 (w5.alloc (.cells #[.int .i64 0, .int .i64 0, .int .u64 0, .int .u64 0, .string ⟨#[]⟩] 25)) := (Below.refl _ _).alloc (Nat.le_refl _) _
      have hB5p : Below w.heap.size w (w5.alloc (.cells #[.int .i64 0, .int .i64 0, .int .u64 0, .int .u64 0, .string ⟨#[]⟩] 25)) := hB5.trans (hal5.mono hB5.size)
      have ht5p := ht.below hB5p htp
      have hg5p := hg.below hB5p hgp
      have H5p : (w5.alloc (.cells #[.int .i64 0, .int .i64 0, .int .u64 0, .int .u64 0, .string ⟨#[]⟩] 25)).heap[w5.heap.size]? = some (.cells #[.int .i64 0, .int .i64 0, .int .u64 0, .int .u64 0, .string ⟨#[]⟩] 25 (0, 0)) := heap_alloc_new w5 _
      have h0 := cell_of_block H5p 0
      have h1 := cell_of_block H5p 1
      have h2 := cell_of_block H5p 2
      have h3 := cell_of_block H5p 3
      have h4 := cell_of_block H5p 4
      simp at h0 h1 h2 h3 h4
      go_wp2_with fail
      go_ret
      exact ⟨ret_bool (by simp), hB5p⟩
end Go.Proofs.YtffejniibljjeaaDoor.Frame
