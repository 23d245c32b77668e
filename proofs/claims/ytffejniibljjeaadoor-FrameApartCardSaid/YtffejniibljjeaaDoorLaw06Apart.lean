/- Layer 6: the walk of FrameApart. Conditions: the table of layer 5 and the variable of package errors are laid; numbers without sign. -/
import Derived.Test.YtffejniibljjeaaDoorFrameZ
namespace Go.Proofs.YtffejniibljjeaaDoor.Frame
set_option linter.unusedSimpArgs false
set_option linter.unusedVariables false
open Go.RowKit
open Go.Proofs.YtffejniibljjeaaDoor
open Go.Proofs.YtffejniibljjeaaDoor.Link (Fr right_is right_any frBox bcell ret_bool empty_size)

theorem same_put {f g : Fr} {S T : ByteArray} (hf : f.right = true) (hg : g.right = true) (kf : Fits f) (kg : Fits g) (hS : S = ⟨(put f).toArray⟩) (hT : T = ⟨(put g).toArray⟩) : (S.toList == T.toList) = frSame f g := by
  rw [Bool.eq_iff_iff, frSame_iff, beq_iff_eq, Lib.toList_data, Lib.toList_data, hS, hT]
  exact ⟨fun h => put_inj hf hg kf kg h, fun h => by rw [h]⟩
set_option maxRecDepth 100000 in
set_option maxHeartbeats 4000000 in
theorem apart_walk (k ep sq ak k' ep' sq' ak' : Int) (b b' : ByteArray) (kf : Fits ⟨k, ep, sq, ak, b⟩) (kg : Fits ⟨k', ep', sq', ak', b'⟩) (w : World) (ht : TabAt w) (hg : ErrAt w) :
    Calls Tryd.prog 8 #[.agg #[.int .i64 k, .int .i64 ep, .int .u64 sq, .int .u64 ak, .string b], .agg #[.int .i64 k', .int .i64 ep', .int .u64 sq', .int .u64 ak', .string b']] w fun e w' => e = .returned (.bool true) ∧ Below w.heap.size w w' := by
  have hgp := hg.pos
  have htp := ht.pos
  have hB0 : Below w.heap.size w ((w.alloc (.cells #[.int .i64 k, .int .i64 ep, .int .u64 sq, .int .u64 ak, .string b] 25)).alloc (.cells #[.int .i64 k', .int .i64 ep', .int .u64 sq', .int .u64 ak', .string b'] 25)) := ((Below.refl _ _).alloc (Nat.le_refl _) _).alloc (by simp) _
  have F0 : ((w.alloc (.cells #[.int .i64 k, .int .i64 ep, .int .u64 sq, .int .u64 ak, .string b] 25)).alloc (.cells #[.int .i64 k', .int .i64 ep', .int .u64 sq', .int .u64 ak', .string b'] 25)).heap[w.heap.size]? = some (.cells #[.int .i64 k, .int .i64 ep, .int .u64 sq, .int .u64 ak, .string b] 25 (0, 0)) := (Below.heap_alloc _ _ _ (by simp)).trans (heap_alloc_new w _)
  have G0 : ((w.alloc (.cells #[.int .i64 k, .int .i64 ep, .int .u64 sq, .int .u64 ak, .string b] 25)).alloc (.cells #[.int .i64 k', .int .i64 ep', .int .u64 sq', .int .u64 ak', .string b'] 25)).heap[w.heap.size + 1]? = some (.cells #[.int .i64 k', .int .i64 ep', .int .u64 sq', .int .u64 ak', .string b'] 25 (0, 0)) := by
    have h := heap_alloc_new (w.alloc (.cells #[.int .i64 k, .int .i64 ep, .int .u64 sq, .int .u64 ak, .string b] 25)) (.cells #[.int .i64 k', .int .i64 ep', .int .u64 sq', .int .u64 ak', .string b'] 25)
    simpa using h
  have ht0 := ht.below hB0 htp
  have hg0 := hg.below hB0 hgp
  have f0 := cell_of_block F0 0
  have f1 := cell_of_block F0 1
  have f2 := cell_of_block F0 2
  have f3 := cell_of_block F0 3
  have f4 := cell_of_block F0 4
  simp at f0 f1 f2 f3 f4
  have g0 := cell_of_block G0 0
  have g1 := cell_of_block G0 1
  have g2 := cell_of_block G0 2
  have g3 := cell_of_block G0 3
  have g4 := cell_of_block G0 4
  simp at g0 g1 g2 g3 g4
  cases hrf : Fr.right ⟨k, ep, sq, ak, b⟩
  · have HRF := Lib.hid hrf
    clear hrf
    go_enter Tryd.func8, Tryd.ntmps8
    go_wp2_with fail
    refine (awake_any _ ht0 hg0).mono ?_
    rintro e w1 ⟨rfl, hb1⟩
    have hB1 : Below w.heap.size w w1 := hB0.trans (hb1.mono hB0.size)
    have ht1 := ht.below hB1 htp
    have hg1 := hg.below hB1 hgp
    have F1 := (hb1.block _ (lt_of_block F0)).trans F0
    clear f0 f1 f2 f3 f4
    have f0 := cell_of_block F1 0
    have f1 := cell_of_block F1 1
    have f2 := cell_of_block F1 2
    have f3 := cell_of_block F1 3
    have f4 := cell_of_block F1 4
    simp at f0 f1 f2 f3 f4
    have G1 := (hb1.block _ (lt_of_block G0)).trans G0
    clear g0 g1 g2 g3 g4
    have g0 := cell_of_block G1 0
    have g1 := cell_of_block G1 1
    have g2 := cell_of_block G1 2
    have g3 := cell_of_block G1 3
    have g4 := cell_of_block G1 4
    simp at g0 g1 g2 g3 g4
    go_wp2_with fail
    refine (right_is ⟨k, ep, sq, ak, b⟩ false HRF.out _).mono ?_
    rintro e w2 ⟨rfl, hb2⟩
    have hB2 : Below w.heap.size w w2 := hB1.trans (hb2.mono hB1.size)
    have ht2 := ht.below hB2 htp
    have hg2 := hg.below hB2 hgp
    have F2 := (hb2.block _ (lt_of_block F1)).trans F1
    clear f0 f1 f2 f3 f4
    have f0 := cell_of_block F2 0
    have f1 := cell_of_block F2 1
    have f2 := cell_of_block F2 2
    have f3 := cell_of_block F2 3
    have f4 := cell_of_block F2 4
    simp at f0 f1 f2 f3 f4
    have G2 := (hb2.block _ (lt_of_block G1)).trans G1
    clear g0 g1 g2 g3 g4
    have g0 := cell_of_block G2 0
    have g1 := cell_of_block G2 1
    have g2 := cell_of_block G2 2
    have g3 := cell_of_block G2 3
    have g4 := cell_of_block G2 4
    simp at g0 g1 g2 g3 g4
    go_wp2_with fail
    refine (awake_any _ ht2 hg2).mono ?_
    rintro e w3 ⟨rfl, hb3⟩
    have hB3 : Below w.heap.size w w3 := hB2.trans (hb3.mono hB2.size)
    have ht3 := ht.below hB3 htp
    have hg3 := hg.below hB3 hgp
    go_wp2_with fail
    go_ret
    exact ⟨rfl, hB3⟩
  cases hrg : Fr.right ⟨k', ep', sq', ak', b'⟩
  · have HRF := Lib.hid hrf
    have HRG := Lib.hid hrg
    clear hrf hrg
    go_enter Tryd.func8, Tryd.ntmps8
    go_wp2_with fail
    refine (awake_any _ ht0 hg0).mono ?_
    rintro e w1 ⟨rfl, hb1⟩
    have hB1 : Below w.heap.size w w1 := hB0.trans (hb1.mono hB0.size)
    have ht1 := ht.below hB1 htp
    have hg1 := hg.below hB1 hgp
    have F1 := (hb1.block _ (lt_of_block F0)).trans F0
    clear f0 f1 f2 f3 f4
    have f0 := cell_of_block F1 0
    have f1 := cell_of_block F1 1
    have f2 := cell_of_block F1 2
    have f3 := cell_of_block F1 3
    have f4 := cell_of_block F1 4
    simp at f0 f1 f2 f3 f4
    have G1 := (hb1.block _ (lt_of_block G0)).trans G0
    clear g0 g1 g2 g3 g4
    have g0 := cell_of_block G1 0
    have g1 := cell_of_block G1 1
    have g2 := cell_of_block G1 2
    have g3 := cell_of_block G1 3
    have g4 := cell_of_block G1 4
    simp at g0 g1 g2 g3 g4
    go_wp2_with fail
    refine (right_is ⟨k, ep, sq, ak, b⟩ true HRF.out _).mono ?_
    rintro e w2 ⟨rfl, hb2⟩
    have hB2 : Below w.heap.size w w2 := hB1.trans (hb2.mono hB1.size)
    have ht2 := ht.below hB2 htp
    have hg2 := hg.below hB2 hgp
    have F2 := (hb2.block _ (lt_of_block F1)).trans F1
    clear f0 f1 f2 f3 f4
    have f0 := cell_of_block F2 0
    have f1 := cell_of_block F2 1
    have f2 := cell_of_block F2 2
    have f3 := cell_of_block F2 3
    have f4 := cell_of_block F2 4
    simp at f0 f1 f2 f3 f4
    have G2 := (hb2.block _ (lt_of_block G1)).trans G1
    clear g0 g1 g2 g3 g4
    have g0 := cell_of_block G2 0
    have g1 := cell_of_block G2 1
    have g2 := cell_of_block G2 2
    have g3 := cell_of_block G2 3
    have g4 := cell_of_block G2 4
    simp at g0 g1 g2 g3 g4
    go_wp2_with fail
    refine (right_is ⟨k', ep', sq', ak', b'⟩ false HRG.out _).mono ?_
    rintro e w3 ⟨rfl, hb3⟩
    have hB3 : Below w.heap.size w w3 := hB2.trans (hb3.mono hB2.size)
    have ht3 := ht.below hB3 htp
    have hg3 := hg.below hB3 hgp
    have F3 := (hb3.block _ (lt_of_block F2)).trans F2
    clear f0 f1 f2 f3 f4
    have f0 := cell_of_block F3 0
    have f1 := cell_of_block F3 1
    have f2 := cell_of_block F3 2
    have f3 := cell_of_block F3 3
    have f4 := cell_of_block F3 4
    simp at f0 f1 f2 f3 f4
    have G3 := (hb3.block _ (lt_of_block G2)).trans G2
    clear g0 g1 g2 g3 g4
    have g0 := cell_of_block G3 0
    have g1 := cell_of_block G3 1
    have g2 := cell_of_block G3 2
    have g3 := cell_of_block G3 3
    have g4 := cell_of_block G3 4
    simp at g0 g1 g2 g3 g4
    go_wp2_with fail
    refine (awake_any _ ht3 hg3).mono ?_
    rintro e w4 ⟨rfl, hb4⟩
    have hB4 : Below w.heap.size w w4 := hB3.trans (hb4.mono hB3.size)
    have ht4 := ht.below hB4 htp
    have hg4 := hg.below hB4 hgp
    go_wp2_with fail
    go_ret
    exact ⟨rfl, hB4⟩
  obtain ⟨S, hS⟩ : ∃ S : ByteArray, S = ⟨(put ⟨k, ep, sq, ak, b⟩).toArray⟩ := ⟨_, rfl⟩
  obtain ⟨T, hT⟩ : ∃ S : ByteArray, S = ⟨(put ⟨k', ep', sq', ak', b'⟩).toArray⟩ := ⟨_, rfl⟩
  have hsame := same_put hrf hrg kf kg hS hT
  have HRF := Lib.hid hrf
  have HRG := Lib.hid hrg
  have HS := Lib.hid hS
  have HT := Lib.hid hT
  have HSM := Lib.hid hsame
  clear hrf hrg hS hT hsame
  go_enter Tryd.func8, Tryd.ntmps8
  go_wp2_with fail
  refine (awake_any _ ht0 hg0).mono ?_
  rintro e w1 ⟨rfl, hb1⟩
  have hB1 : Below w.heap.size w w1 := hB0.trans (hb1.mono hB0.size)
  have ht1 := ht.below hB1 htp
  have hg1 := hg.below hB1 hgp
  have F1 := (hb1.block _ (lt_of_block F0)).trans F0
  clear f0 f1 f2 f3 f4
  have f0 := cell_of_block F1 0
  have f1 := cell_of_block F1 1
  have f2 := cell_of_block F1 2
  have f3 := cell_of_block F1 3
  have f4 := cell_of_block F1 4
  simp at f0 f1 f2 f3 f4
  have G1 := (hb1.block _ (lt_of_block G0)).trans G0
  clear g0 g1 g2 g3 g4
  have g0 := cell_of_block G1 0
  have g1 := cell_of_block G1 1
  have g2 := cell_of_block G1 2
  have g3 := cell_of_block G1 3
  have g4 := cell_of_block G1 4
  simp at g0 g1 g2 g3 g4
  go_wp2_with fail
  refine (right_is ⟨k, ep, sq, ak, b⟩ true HRF.out _).mono ?_
  rintro e w2 ⟨rfl, hb2⟩
  have hB2 : Below w.heap.size w w2 := hB1.trans (hb2.mono hB1.size)
  have ht2 := ht.below hB2 htp
  have hg2 := hg.below hB2 hgp
  have F2 := (hb2.block _ (lt_of_block F1)).trans F1
  clear f0 f1 f2 f3 f4
  have f0 := cell_of_block F2 0
  have f1 := cell_of_block F2 1
  have f2 := cell_of_block F2 2
  have f3 := cell_of_block F2 3
  have f4 := cell_of_block F2 4
  simp at f0 f1 f2 f3 f4
  have G2 := (hb2.block _ (lt_of_block G1)).trans G1
  clear g0 g1 g2 g3 g4
  have g0 := cell_of_block G2 0
  have g1 := cell_of_block G2 1
  have g2 := cell_of_block G2 2
  have g3 := cell_of_block G2 3
  have g4 := cell_of_block G2 4
  simp at g0 g1 g2 g3 g4
  go_wp2_with fail
  refine (right_is ⟨k', ep', sq', ak', b'⟩ true HRG.out _).mono ?_
  rintro e w3 ⟨rfl, hb3⟩
  have hB3 : Below w.heap.size w w3 := hB2.trans (hb3.mono hB2.size)
  have ht3 := ht.below hB3 htp
  have hg3 := hg.below hB3 hgp
  have F3 := (hb3.block _ (lt_of_block F2)).trans F2
  clear f0 f1 f2 f3 f4
  have f0 := cell_of_block F3 0
  have f1 := cell_of_block F3 1
  have f2 := cell_of_block F3 2
  have f3 := cell_of_block F3 3
  have f4 := cell_of_block F3 4
  simp at f0 f1 f2 f3 f4
  have G3 := (hb3.block _ (lt_of_block G2)).trans G2
  clear g0 g1 g2 g3 g4
  have g0 := cell_of_block G3 0
  have g1 := cell_of_block G3 1
  have g2 := cell_of_block G3 2
  have g3 := cell_of_block G3 3
  have g4 := cell_of_block G3 4
  simp at g0 g1 g2 g3 g4
  go_wp2_with fail
  refine (Put_is ⟨k, ep, sq, ak, b⟩ S HRF.out kf HS.out _ ht3).mono ?_
  rintro e w4 ⟨rfl, hb4⟩
  have hB4 : Below w.heap.size w w4 := hB3.trans (hb4.mono hB3.size)
  have ht4 := ht.below hB4 htp
  have hg4 := hg.below hB4 hgp
  have F4 := (hb4.block _ (lt_of_block F3)).trans F3
  clear f0 f1 f2 f3 f4
  have f0 := cell_of_block F4 0
  have f1 := cell_of_block F4 1
  have f2 := cell_of_block F4 2
  have f3 := cell_of_block F4 3
  have f4 := cell_of_block F4 4
  simp at f0 f1 f2 f3 f4
  have G4 := (hb4.block _ (lt_of_block G3)).trans G3
  clear g0 g1 g2 g3 g4
  have g0 := cell_of_block G4 0
  have g1 := cell_of_block G4 1
  have g2 := cell_of_block G4 2
  have g3 := cell_of_block G4 3
  have g4 := cell_of_block G4 4
  simp at g0 g1 g2 g3 g4
  go_wp2_with fail
  refine (Put_is ⟨k', ep', sq', ak', b'⟩ T HRG.out kg HT.out _ ht4).mono ?_
  rintro e w5 ⟨rfl, hb5⟩
  have hB5 : Below w.heap.size w w5 := hB4.trans (hb5.mono hB4.size)
  have ht5 := ht.below hB5 htp
  have hg5 := hg.below hB5 hgp
  have F5 := (hb5.block _ (lt_of_block F4)).trans F4
  clear f0 f1 f2 f3 f4
  have f0 := cell_of_block F5 0
  have f1 := cell_of_block F5 1
  have f2 := cell_of_block F5 2
  have f3 := cell_of_block F5 3
  have f4 := cell_of_block F5 4
  simp at f0 f1 f2 f3 f4
  have G5 := (hb5.block _ (lt_of_block G4)).trans G4
  clear g0 g1 g2 g3 g4
  have g0 := cell_of_block G5 0
  have g1 := cell_of_block G5 1
  have g2 := cell_of_block G5 2
  have g3 := cell_of_block G5 3
  have g4 := cell_of_block G5 4
  simp at g0 g1 g2 g3 g4
  go_wp2_with fail
  all_goals
    go_ret
    exact ⟨ret_bool (by have h := HSM.out; simp_all [frSame]), hB5⟩
end Go.Proofs.YtffejniibljjeaaDoor.Frame
