/- Layer 6: the walk of FramePuts. Conditions: the table of layer 5 and the variable of package errors are laid; numbers without sign. -/
import Derived.Test.YtffejniibljjeaaDoorFrameZ
namespace Go.Proofs.YtffejniibljjeaaDoor.Frame
set_option linter.unusedSimpArgs false
set_option linter.unusedVariables false
open Go.RowKit
open Go.Proofs.YtffejniibljjeaaDoor
open Go.Proofs.YtffejniibljjeaaDoor.Link (Fr right_is right_any frBox bcell ret_bool empty_size)

theorem chain {α : Sort _} {p q r s t : Prop} [Decidable p] [Decidable q] [Decidable r] [Decidable s] [Decidable t] (x y : α) :
    (if p then if q then if r then if s then if t then x else y else y else y else y else y) = if p ∧ q ∧ r ∧ s ∧ t then x else y := by
  by_cases p <;> by_cases q <;> by_cases r <;> by_cases s <;> by_cases t <;> simp [*]
set_option maxRecDepth 100000 in
set_option maxHeartbeats 4000000 in
theorem puts_walk (k ep sq ak k' ep' sq' ak' : Int) (b b' : ByteArray) (kf : Fits ⟨k, ep, sq, ak, b⟩) (hbm : b.size ≤ maxLen) (hbm' : b'.size ≤ maxLen) (w : World) (ht : TabAt w) (hg : ErrAt w) :
    Calls Tryd.prog 3 #[.agg #[.int .i64 k, .int .i64 ep, .int .u64 sq, .int .u64 ak, .string b], .agg #[.int .i64 k', .int .i64 ep', .int .u64 sq', .int .u64 ak', .string b']] w fun e w' => e = .returned (.bool true) ∧ Below w.heap.size w w' := by
  have hgp := hg.pos
  have htp := ht.pos
  have hB0 : Below w.heap.size w ((w.alloc (.cells #[.int .i64 k, .int .i64 ep, .int .u64 sq, .int .u64 ak, .string b] 25)).alloc (.cells #[.int .i64 k', .int .i64 ep', .int .u64 sq', .int .u64 ak', .string b'] 25)) := ((Below.refl _ _).alloc (Nat.le_refl _) _).alloc (by simp) _
  have F0 : ((w.alloc (.cells #[.int .i64 k, .int .i64 ep, .int .u64 sq, .int .u64 ak, .string b] 25)).alloc (.cells #[.int .i64 k', .int .i64 ep', .int .u64 sq', .int .u64 ak', .string b'] 25)).heap[w.heap.size]? = some (.cells #[.int .i64 k, .int .i64 ep, .int .u64 sq, .int .u64 ak, .string b] 25 (0, 0)) := (Below.heap_alloc _ _ _ (by simp)).trans (heap_alloc_new w _)
  have G0 : ((w.alloc (.cells #[.int .i64 k, .int .i64 ep, .int .u64 sq, .int .u64 ak, .string b] 25)).alloc (.cells #[.int .i64 k', .int .i64 ep', .int .u64 sq', .int .u64 ak', .string b'] 25)).heap[w.heap.size + 1]? = some (.cells #[.int .i64 k', .int .i64 ep', .int .u64 sq', .int .u64 ak', .string b'] 25 (0, 0)) := by
    have h := heap_alloc_new (w.alloc (.cells #[.int .i64 k, .int .i64 ep, .int .u64 sq, .int .u64 ak, .string b] 25)) (.cells #[.int .i64 k', .int .i64 ep', .int .u64 sq', .int .u64 ak', .string b'] 25)
    simpa using h
  have ht0 := ht.below hB0 htp
  have hg0 := hg.below hB0 hgp
  have f0 := cell_of_block F0 0
  have f1 := cell_of_block F0 1
  have f2 := cell_of_block F0 2
  have f3 := cell_of_block F0 3
  have f4 := cell_of_block F0 4
  simp at f0 f1 f2 f3 f4
  have g0 := cell_of_block G0 0
  have g1 := cell_of_block G0 1
  have g2 := cell_of_block G0 2
  have g3 := cell_of_block G0 3
  have g4 := cell_of_block G0 4
  simp at g0 g1 g2 g3 g4
  unfold maxLen at hbm hbm'
  by_cases hb300 : 300 < b.size
  · have d1 : decide (300 < (b.size : Int)) = true := by simp; omega
    go_enter Tryd.func3, Tryd.ntmps3
    go_wp2_with fail
    refine (awake_any _ ht0 hg0).mono ?_
    rintro e w1 ⟨rfl, hb1⟩
    have hB1 : Below w.heap.size w w1 := hB0.trans (hb1.mono hB0.size)
    have ht1 := ht.below hB1 htp
    have hg1 := hg.below hB1 hgp
    have F1 := (hb1.block _ (lt_of_block F0)).trans F0
    clear f0 f1 f2 f3 f4
    have f0 := cell_of_block F1 0
    have f1 := cell_of_block F1 1
    have f2 := cell_of_block F1 2
    have f3 := cell_of_block F1 3
    have f4 := cell_of_block F1 4
    simp at f0 f1 f2 f3 f4
    have G1 := (hb1.block _ (lt_of_block G0)).trans G0
    clear g0 g1 g2 g3 g4
    have g0 := cell_of_block G1 0
    have g1 := cell_of_block G1 1
    have g2 := cell_of_block G1 2
    have g3 := cell_of_block G1 3
    have g4 := cell_of_block G1 4
    simp at g0 g1 g2 g3 g4
    go_wp2_with fail
    refine (awake_any _ ht1 hg1).mono ?_
    rintro e w2 ⟨rfl, hb2⟩
    have hB2 : Below w.heap.size w w2 := hB1.trans (hb2.mono hB1.size)
    have ht2 := ht.below hB2 htp
    have hg2 := hg.below hB2 hgp
    go_wp2_with fail
    go_ret
    exact ⟨rfl, hB2⟩
  have d1 : decide (300 < (b.size : Int)) = false := by simp; omega
  by_cases hs300 : 300 < b'.size
  · have d2 : decide (300 < (b'.size : Int)) = true := by simp; omega
    go_enter Tryd.func3, Tryd.ntmps3
    go_wp2_with fail
    refine (awake_any _ ht0 hg0).mono ?_
    rintro e w1 ⟨rfl, hb1⟩
    have hB1 : Below w.heap.size w w1 := hB0.trans (hb1.mono hB0.size)
    have ht1 := ht.below hB1 htp
    have hg1 := hg.below hB1 hgp
    have F1 := (hb1.block _ (lt_of_block F0)).trans F0
    clear f0 f1 f2 f3 f4
    have f0 := cell_of_block F1 0
    have f1 := cell_of_block F1 1
    have f2 := cell_of_block F1 2
    have f3 := cell_of_block F1 3
    have f4 := cell_of_block F1 4
    simp at f0 f1 f2 f3 f4
    have G1 := (hb1.block _ (lt_of_block G0)).trans G0
    clear g0 g1 g2 g3 g4
    have g0 := cell_of_block G1 0
    have g1 := cell_of_block G1 1
    have g2 := cell_of_block G1 2
    have g3 := cell_of_block G1 3
    have g4 := cell_of_block G1 4
    simp at g0 g1 g2 g3 g4
    go_wp2_with fail
    refine (awake_any _ ht1 hg1).mono ?_
    rintro e w2 ⟨rfl, hb2⟩
    have hB2 : Below w.heap.size w w2 := hB1.trans (hb2.mono hB1.size)
    have ht2 := ht.below hB2 htp
    have hg2 := hg.below hB2 hgp
    go_wp2_with fail
    go_ret
    exact ⟨rfl, hB2⟩
  have d2 : decide (300 < (b'.size : Int)) = false := by simp; omega
  obtain ⟨sm, hsm⟩ : ∃ r, frSame ⟨k, ep, sq, ak, b⟩ ⟨k', ep', sq', ak', b'⟩ = r := ⟨_, rfl⟩
  have HSM := Lib.hid hsm
  clear hsm
  cases hrf : Fr.right ⟨k, ep, sq, ak, b⟩
  · have HRF := Lib.hid hrf
    clear hrf
    go_enter Tryd.func3, Tryd.ntmps3
    go_wp2_with fail
    refine (awake_any _ ht0 hg0).mono ?_
    rintro e w1 ⟨rfl, hb1⟩
    have hB1 : Below w.heap.size w w1 := hB0.trans (hb1.mono hB0.size)
    have ht1 := ht.below hB1 htp
    have hg1 := hg.below hB1 hgp
    have F1 := (hb1.block _ (lt_of_block F0)).trans F0
    clear f0 f1 f2 f3 f4
    have f0 := cell_of_block F1 0
    have f1 := cell_of_block F1 1
    have f2 := cell_of_block F1 2
    have f3 := cell_of_block F1 3
    have f4 := cell_of_block F1 4
    simp at f0 f1 f2 f3 f4
    have G1 := (hb1.block _ (lt_of_block G0)).trans G0
    clear g0 g1 g2 g3 g4
    have g0 := cell_of_block G1 0
    have g1 := cell_of_block G1 1
    have g2 := cell_of_block G1 2
    have g3 := cell_of_block G1 3
    have g4 := cell_of_block G1 4
    simp at g0 g1 g2 g3 g4
    go_wp2_with fail
    refine (Put_no ⟨k, ep, sq, ak, b⟩ HRF.out _).mono ?_
    rintro e w2 ⟨rfl, hb2⟩
    have hB2 : Below w.heap.size w w2 := hB1.trans (hb2.mono hB1.size)
    have ht2 := ht.below hB2 htp
    have hg2 := hg.below hB2 hgp
    have F2 := (hb2.block _ (lt_of_block F1)).trans F1
    clear f0 f1 f2 f3 f4
    have f0 := cell_of_block F2 0
    have f1 := cell_of_block F2 1
    have f2 := cell_of_block F2 2
    have f3 := cell_of_block F2 3
    have f4 := cell_of_block F2 4
    simp at f0 f1 f2 f3 f4
    have G2 := (hb2.block _ (lt_of_block G1)).trans G1
    clear g0 g1 g2 g3 g4
    have g0 := cell_of_block G2 0
    have g1 := cell_of_block G2 1
    have g2 := cell_of_block G2 2
    have g3 := cell_of_block G2 3
    have g4 := cell_of_block G2 4
    simp at g0 g1 g2 g3 g4
    have HR0 := Lib.hid (show w2.drew.heap[w.heap.size]? = some (.cells #[.int .i64 k, .int .i64 ep, .int .u64 sq, .int .u64 ak, .string b] 25 (0, 0)) ∧ w2.drew.heap[w.heap.size + 1]? = some (.cells #[.int .i64 k', .int .i64 ep', .int .u64 sq', .int .u64 ak', .string b'] 25 (0, 0)) ∧ Below w.heap.size w w2.drew from ⟨F2, G2, below_drewN hB2 1⟩)
    clear F2 G2 f0 f1 f2 f3 f4 g0 g1 g2 g3 g4
    go_wp2_with fail
    refine' wp_flow [only 0 (.agg #[.int .i64 k, .int .i64 ep, .int .u64 sq, .int .u64 ak, .string b]), only 1 (Value.bool false), only 2 (.agg #[.int .i64 k, .int .i64 ep, .int .u64 sq, .int .u64 ak, .string b]), only 3 (Value.bool false), only 4 (Value.bool false), only 5 (Value.bool false), only 6 (.agg #[.int .i64 k, .int .i64 ep, .int .u64 sq, .int .u64 ak, .string b]), only 7 (.agg #[.int .i64 k', .int .i64 ep', .int .u64 sq', .int .u64 ak', .string b']), only 8 (Value.bool sm), only 9 (.agg #[.int .i64 k, .int .i64 ep, .int .u64 sq, .int .u64 ak, .string b]), only 10 (.agg #[.int .i64 k', .int .i64 ep', .int .u64 sq', .int .u64 ak', .string b']), only 11 (Value.bool sm), only 12 (Value.bool false), only 13 (Value.bool false)] (fun v => v.heap[w.heap.size]? = some (.cells #[.int .i64 k, .int .i64 ep, .int .u64 sq, .int .u64 ak, .string b] 25 (0, 0)) ∧ v.heap[w.heap.size + 1]? = some (.cells #[.int .i64 k', .int .i64 ep', .int .u64 sq', .int .u64 ak', .string b'] 25 (0, 0)) ∧ Below w.heap.size w v) [[], [0], [], [2], [1, 3], [4], [5], [5], [5, 6, 7], [5], [5], [5, 9, 10], [5, 8, 11], [5, 12]] [[], [], [], [], [], [], [], [], [], [], [], [], [], []] [[], [], [], [], [], [], [], [], [], [], [], [], [], []] [[], [], [], [], [], [], [], [], [], [], [], [], [], []] [] [0, 1, 0, 4, 15, 31, 63, 63, 255, 63, 63, 1599, 4095, 8191] _ (fun us => ?hfr) (by kernel_rfl) (by kernel_rfl) (by kernel_rfl) ⟨only_still _, only_still _, only_still _, only_still _, only_still _, only_still _, only_still _, only_still _, only_still _, only_still _, only_still _, only_still _, only_still _, only_still _, trivial⟩ (HR0.out) (by simp) (trivial) ?hst ?hla
    case hfr => (simp only [putAll, Act.put, List.setIfInBounds_toArray, List.set_cons_zero, List.set_cons_succ, Nat.reduceAdd]; rfl)
    case hst =>
      refine ⟨?_, ?_, ?_, ?_, ?_, ?_, ?_, ?_, ?_, ?_, ?_, ?_, ?_, ?_, trivial⟩
      · intro us v hR hn ho K hK
        clear ho
        obtain ⟨r1, r4, r5⟩ := id hR
        have z0 := cell_of_block r1 0
        have z1 := cell_of_block r1 1
        have z2 := cell_of_block r1 2
        have z3 := cell_of_block r1 3
        have z4 := cell_of_block r1 4
        simp at z0 z1 z2 z3 z4
        rw [if_pos (by rfl)]
        go_simp
        refine hK _ _ _ (by simp only [Act.put, List.setIfInBounds_toArray, List.set_cons_zero, List.set_cons_succ, Nat.reduceAdd] <;> rfl) ?_ hR trivial
        refine only_mk (v := v) ?_
        with_reducible rfl
      · intro us v hR hn ho K hK
        obtain ⟨n0, -⟩ := hn
        have n0 : us 0 = _ := n0
        clear ho
        obtain ⟨r1, r4, r5⟩ := id hR
        rw [if_pos (by rfl)]
        go_simp
        refine (right_is ⟨k, ep, sq, ak, b⟩ false HRF.out _).mono ?_
        rintro e v' ⟨rfl, hb⟩
        dsimp only
        exact hK _ _ _ (by simp only [Act.put, List.setIfInBounds_toArray, List.set_cons_zero, List.set_cons_succ, Nat.reduceAdd, n0] <;> rfl) rfl ⟨(hb.block _ (lt_of_block r1)).trans r1, (hb.block _ (lt_of_block r4)).trans r4, r5.trans (hb.mono r5.size)⟩ trivial
      · intro us v hR hn ho K hK
        clear ho
        obtain ⟨r1, r4, r5⟩ := id hR
        have z0 := cell_of_block r1 0
        have z1 := cell_of_block r1 1
        have z2 := cell_of_block r1 2
        have z3 := cell_of_block r1 3
        have z4 := cell_of_block r1 4
        simp at z0 z1 z2 z3 z4
        rw [if_pos (by rfl)]
        go_simp
        refine hK _ _ _ (by simp only [Act.put, List.setIfInBounds_toArray, List.set_cons_zero, List.set_cons_succ, Nat.reduceAdd] <;> rfl) ?_ hR trivial
        refine only_mk (v := v) ?_
        with_reducible rfl
      · intro us v hR hn ho K hK
        obtain ⟨n2, -⟩ := hn
        have n2 : us 2 = _ := n2
        clear ho
        obtain ⟨r1, r4, r5⟩ := id hR
        rw [if_pos (by rfl)]
        go_simp
        refine (refRight_is ⟨k, ep, sq, ak, b⟩ false HRF.out _).mono ?_
        rintro e v' ⟨rfl, hb⟩
        dsimp only
        exact hK _ _ _ (by simp only [Act.put, List.setIfInBounds_toArray, List.set_cons_zero, List.set_cons_succ, Nat.reduceAdd, n2] <;> rfl) rfl ⟨(hb.block _ (lt_of_block r1)).trans r1, (hb.block _ (lt_of_block r4)).trans r4, r5.trans (hb.mono r5.size)⟩ trivial
      · intro us v hR hn ho K hK
        obtain ⟨n1, n3, -⟩ := hn
        have n1 : us 1 = _ := n1
        have n3 : us 3 = _ := n3
        clear ho
        obtain ⟨r1, r4, r5⟩ := id hR
        rw [if_pos (by rfl)]
        go_simp
        refine hK _ _ _ (by simp only [Act.put, List.setIfInBounds_toArray, List.set_cons_zero, List.set_cons_succ, Nat.reduceAdd, n1, n3] <;> rfl) ?_ hR trivial
        refine only_mk (v := v) ?_
        with_reducible rfl
      · intro us v hR hn ho K hK
        obtain ⟨n4, -⟩ := hn
        have n4 : us 4 = _ := n4
        clear ho
        obtain ⟨r1, r4, r5⟩ := id hR
        rw [if_pos (by rfl)]
        go_simp
        refine hK _ _ _ (by simp only [Act.put, List.setIfInBounds_toArray, List.set_cons_zero, List.set_cons_succ, Nat.reduceAdd, n4] <;> rfl) ?_ hR trivial
        refine only_mk (v := v) ?_
        with_reducible rfl
      · intro us v hR hn ho K hK
        obtain ⟨n5, -⟩ := hn
        have n5 : us 5 = _ := n5
        clear ho
        obtain ⟨r1, r4, r5⟩ := id hR
        have z0 := cell_of_block r1 0
        have z1 := cell_of_block r1 1
        have z2 := cell_of_block r1 2
        have z3 := cell_of_block r1 3
        have z4 := cell_of_block r1 4
        simp at z0 z1 z2 z3 z4
        rw [if_pos (by simp [Region.wanted, yielded, n5])]
        go_simp
        refine hK _ _ _ (by simp only [Act.put, List.setIfInBounds_toArray, List.set_cons_zero, List.set_cons_succ, Nat.reduceAdd, n5] <;> rfl) ?_ hR trivial
        refine only_mk (v := v) ?_
        with_reducible rfl
      · intro us v hR hn ho K hK
        obtain ⟨n5, -⟩ := hn
        have n5 : us 5 = _ := n5
        clear ho
        obtain ⟨r1, r4, r5⟩ := id hR
        have z0 := cell_of_block r4 0
        have z1 := cell_of_block r4 1
        have z2 := cell_of_block r4 2
        have z3 := cell_of_block r4 3
        have z4 := cell_of_block r4 4
        simp at z0 z1 z2 z3 z4
        rw [if_pos (by simp [Region.wanted, yielded, n5])]
        go_simp
        refine hK _ _ _ (by simp only [Act.put, List.setIfInBounds_toArray, List.set_cons_zero, List.set_cons_succ, Nat.reduceAdd, n5] <;> rfl) ?_ hR trivial
        refine only_mk (v := v) ?_
        with_reducible rfl
      · intro us v hR hn ho K hK
        obtain ⟨n5, n6, n7, -⟩ := hn
        have n5 : us 5 = _ := n5
        have n6 : us 6 = _ := n6
        have n7 : us 7 = _ := n7
        clear ho
        obtain ⟨r1, r4, r5⟩ := id hR
        rw [if_pos (by simp [Region.wanted, yielded, n5])]
        go_simp
        refine (Same_is ⟨k, ep, sq, ak, b⟩ ⟨k', ep', sq', ak', b'⟩ sm HSM.out _).mono ?_
        rintro e v' ⟨rfl, hb⟩
        dsimp only
        exact hK _ _ _ (by simp only [Act.put, List.setIfInBounds_toArray, List.set_cons_zero, List.set_cons_succ, Nat.reduceAdd, n5, n6, n7] <;> rfl) rfl ⟨(hb.block _ (lt_of_block r1)).trans r1, (hb.block _ (lt_of_block r4)).trans r4, r5.trans (hb.mono r5.size)⟩ trivial
      · intro us v hR hn ho K hK
        obtain ⟨n5, -⟩ := hn
        have n5 : us 5 = _ := n5
        clear ho
        obtain ⟨r1, r4, r5⟩ := id hR
        have z0 := cell_of_block r1 0
        have z1 := cell_of_block r1 1
        have z2 := cell_of_block r1 2
        have z3 := cell_of_block r1 3
        have z4 := cell_of_block r1 4
        simp at z0 z1 z2 z3 z4
        rw [if_pos (by simp [Region.wanted, yielded, n5])]
        go_simp
        refine hK _ _ _ (by simp only [Act.put, List.setIfInBounds_toArray, List.set_cons_zero, List.set_cons_succ, Nat.reduceAdd, n5] <;> rfl) ?_ hR trivial
        refine only_mk (v := v) ?_
        with_reducible rfl
      · intro us v hR hn ho K hK
        obtain ⟨n5, -⟩ := hn
        have n5 : us 5 = _ := n5
        clear ho
        obtain ⟨r1, r4, r5⟩ := id hR
        have z0 := cell_of_block r4 0
        have z1 := cell_of_block r4 1
        have z2 := cell_of_block r4 2
        have z3 := cell_of_block r4 3
        have z4 := cell_of_block r4 4
        simp at z0 z1 z2 z3 z4
        rw [if_pos (by simp [Region.wanted, yielded, n5])]
        go_simp
        refine hK _ _ _ (by simp only [Act.put, List.setIfInBounds_toArray, List.set_cons_zero, List.set_cons_succ, Nat.reduceAdd, n5] <;> rfl) ?_ hR trivial
        refine only_mk (v := v) ?_
        with_reducible rfl
      · intro us v hR hn ho K hK
        obtain ⟨n5, n9, n10, -⟩ := hn
        have n5 : us 5 = _ := n5
        have n9 : us 9 = _ := n9
        have n10 : us 10 = _ := n10
        clear ho
        obtain ⟨r1, r4, r5⟩ := id hR
        rw [if_pos (by simp [Region.wanted, yielded, n5])]
        go_simp
        rw [chain]
        by_cases hq : (k = k' ∧ ep = ep' ∧ sq = sq' ∧ ak = ak' ∧ b.toList = b'.toList)
        · have hs : true = sm := by rw [← HSM.out]; simp [frSame, hq]
          rw [if_pos hq]
          refine hK _ _ _ (by simp only [Act.put, List.setIfInBounds_toArray, List.set_cons_zero, List.set_cons_succ, Nat.reduceAdd, n5, n9, n10] <;> rfl) ?_ hR trivial
          refine only_mk (v := v) ?_
          rw [hs]
        · have hs : false = sm := by rw [← HSM.out, eq_comm, Bool.eq_false_iff]; intro hh; exact hq (by simpa [frSame, and_assoc] using hh)
          rw [if_neg hq]
          refine hK _ _ _ (by simp only [Act.put, List.setIfInBounds_toArray, List.set_cons_zero, List.set_cons_succ, Nat.reduceAdd, n5, n9, n10] <;> rfl) ?_ hR trivial
          refine only_mk (v := v) ?_
          rw [hs]
      · intro us v hR hn ho K hK
        obtain ⟨n5, n8, n11, -⟩ := hn
        have n5 : us 5 = _ := n5
        have n8 : us 8 = _ := n8
        have n11 : us 11 = _ := n11
        clear ho
        obtain ⟨r1, r4, r5⟩ := id hR
        have hq : (sm != sm) = false := by simp
        rw [if_pos (by simp [Region.wanted, yielded, n5, n8, n11])]
        go_simp
        refine hK _ _ _ (by simp only [Act.put, List.setIfInBounds_toArray, List.set_cons_zero, List.set_cons_succ, Nat.reduceAdd, n5, n8, n11] <;> rfl) ?_ hR trivial
        refine only_mk (v := v) ?_
        with_reducible rfl
      · intro us v hR hn ho K hK
        obtain ⟨n5, n12, -⟩ := hn
        have n5 : us 5 = _ := n5
        have n12 : us 12 = _ := n12
        clear ho
        obtain ⟨r1, r4, r5⟩ := id hR
        rw [if_pos (by rfl)]
        go_simp
        refine hK _ _ _ (by simp only [Act.put, List.setIfInBounds_toArray, List.set_cons_zero, List.set_cons_succ, Nat.reduceAdd, n5, n12] <;> rfl) ?_ hR trivial
        refine only_mk (v := v) ?_
        with_reducible rfl
    case hla =>
      intro us v hR hl
      obtain ⟨n0, n1, n2, n3, n4, n5, n6, n7, n8, n9, n10, n11, n12, n13, -⟩ := need_last hl [0, 1, 2, 3, 4, 5, 6, 7, 8, 9, 10, 11, 12, 13] (by kernel_rfl)
      have n0 : us 0 = _ := n0
      have n1 : us 1 = _ := n1
      have n2 : us 2 = _ := n2
      have n3 : us 3 = _ := n3
      have n4 : us 4 = _ := n4
      have n5 : us 5 = _ := n5
      have n6 : us 6 = _ := n6
      have n7 : us 7 = _ := n7
      have n8 : us 8 = _ := n8
      have n9 : us 9 = _ := n9
      have n10 : us 10 = _ := n10
      have n11 : us 11 = _ := n11
      have n12 : us 12 = _ := n12
      have n13 : us 13 = _ := n13
      obtain ⟨r1, r4, r5⟩ := id hR
      simp only [n0, n1, n2, n3, n4, n5, n6, n7, n8, n9, n10, n11, n12, n13]
      clear hl n0 n1 n2 n3 n4 n5 n6 n7 n8 n9 n10 n11 n12 n13
      have hB2 := r5
      have z0 := cell_of_block r1 0
      have z1 := cell_of_block r1 1
      have z2 := cell_of_block r1 2
      have z3 := cell_of_block r1 3
      have z4 := cell_of_block r1 4
      simp at z0 z1 z2 z3 z4
      go_wp2_with fail
      refine (refRight_is ⟨k, ep, sq, ak, b⟩ false HRF.out _).mono ?_
      rintro e w3 ⟨rfl, hb3⟩
      have hB3 : Below w.heap.size w w3 := r5.trans (hb3.mono r5.size)
      have F3 := (hb3.block _ (lt_of_block r1)).trans r1
      clear z0 z1 z2 z3 z4
      have f0 := cell_of_block F3 0
      have f1 := cell_of_block F3 1
      have f2 := cell_of_block F3 2
      have f3 := cell_of_block F3 3
      have f4 := cell_of_block F3 4
      simp at f0 f1 f2 f3 f4
      go_wp2_with fail
      go_ret
      exact ⟨ret_bool (by simp), hB3⟩
  · obtain ⟨S, hS⟩ : ∃ S : ByteArray, S = ⟨(put ⟨k, ep, sq, ak, b⟩).toArray⟩ := ⟨_, rfl⟩
    have HRF := Lib.hid hrf
    have HS := Lib.hid hS
    clear hrf hS
    go_enter Tryd.func3, Tryd.ntmps3
    go_wp2_with fail
    refine (awake_any _ ht0 hg0).mono ?_
    rintro e w1 ⟨rfl, hb1⟩
    have hB1 : Below w.heap.size w w1 := hB0.trans (hb1.mono hB0.size)
    have ht1 := ht.below hB1 htp
    have hg1 := hg.below hB1 hgp
    have F1 := (hb1.block _ (lt_of_block F0)).trans F0
    clear f0 f1 f2 f3 f4
    have f0 := cell_of_block F1 0
    have f1 := cell_of_block F1 1
    have f2 := cell_of_block F1 2
    have f3 := cell_of_block F1 3
    have f4 := cell_of_block F1 4
    simp at f0 f1 f2 f3 f4
    have G1 := (hb1.block _ (lt_of_block G0)).trans G0
    clear g0 g1 g2 g3 g4
    have g0 := cell_of_block G1 0
    have g1 := cell_of_block G1 1
    have g2 := cell_of_block G1 2
    have g3 := cell_of_block G1 3
    have g4 := cell_of_block G1 4
    simp at g0 g1 g2 g3 g4
    go_wp2_with fail
    refine (Put_is ⟨k, ep, sq, ak, b⟩ S HRF.out kf HS.out _ ht1).mono ?_
    rintro e w2 ⟨rfl, hb2⟩
    have hB2 : Below w.heap.size w w2 := hB1.trans (hb2.mono hB1.size)
    have ht2 := ht.below hB2 htp
    have hg2 := hg.below hB2 hgp
    have F2 := (hb2.block _ (lt_of_block F1)).trans F1
    clear f0 f1 f2 f3 f4
    have f0 := cell_of_block F2 0
    have f1 := cell_of_block F2 1
    have f2 := cell_of_block F2 2
    have f3 := cell_of_block F2 3
    have f4 := cell_of_block F2 4
    simp at f0 f1 f2 f3 f4
    have G2 := (hb2.block _ (lt_of_block G1)).trans G1
    clear g0 g1 g2 g3 g4
    have g0 := cell_of_block G2 0
    have g1 := cell_of_block G2 1
    have g2 := cell_of_block G2 2
    have g3 := cell_of_block G2 3
    have g4 := cell_of_block G2 4
    simp at g0 g1 g2 g3 g4
    have HR0 := Lib.hid (show w2.drew.heap[w.heap.size]? = some (.cells #[.int .i64 k, .int .i64 ep, .int .u64 sq, .int .u64 ak, .string b] 25 (0, 0)) ∧ w2.drew.heap[w.heap.size + 1]? = some (.cells #[.int .i64 k', .int .i64 ep', .int .u64 sq', .int .u64 ak', .string b'] 25 (0, 0)) ∧ Below w.heap.size w w2.drew from ⟨F2, G2, below_drewN hB2 1⟩)
    clear F2 G2 f0 f1 f2 f3 f4 g0 g1 g2 g3 g4
    go_wp2_with fail
    refine' wp_flow [only 0 (.agg #[.int .i64 k, .int .i64 ep, .int .u64 sq, .int .u64 ak, .string b]), only 1 (Value.bool true), only 2 (.agg #[.int .i64 k, .int .i64 ep, .int .u64 sq, .int .u64 ak, .string b]), only 3 (Value.bool true), only 4 (Value.bool false), only 5 (Value.bool false), only 6 (.agg #[.int .i64 k, .int .i64 ep, .int .u64 sq, .int .u64 ak, .string b]), only 7 (.agg #[.int .i64 k', .int .i64 ep', .int .u64 sq', .int .u64 ak', .string b']), only 8 (Value.bool sm), only 9 (.agg #[.int .i64 k, .int .i64 ep, .int .u64 sq, .int .u64 ak, .string b]), only 10 (.agg #[.int .i64 k', .int .i64 ep', .int .u64 sq', .int .u64 ak', .string b']), only 11 (Value.bool sm), only 12 (Value.bool false), only 13 (Value.bool false)] (fun v => v.heap[w.heap.size]? = some (.cells #[.int .i64 k, .int .i64 ep, .int .u64 sq, .int .u64 ak, .string b] 25 (0, 0)) ∧ v.heap[w.heap.size + 1]? = some (.cells #[.int .i64 k', .int .i64 ep', .int .u64 sq', .int .u64 ak', .string b'] 25 (0, 0)) ∧ Below w.heap.size w v) [[], [0], [], [2], [1, 3], [4], [5], [5], [5, 6, 7], [5], [5], [5, 9, 10], [5, 8, 11], [5, 12]] [[], [], [], [], [], [], [], [], [], [], [], [], [], []] [[], [], [], [], [], [], [], [], [], [], [], [], [], []] [[], [], [], [], [], [], [], [], [], [], [], [], [], []] [] [0, 1, 0, 4, 15, 31, 63, 63, 255, 63, 63, 1599, 4095, 8191] _ (fun us => ?hfr) (by kernel_rfl) (by kernel_rfl) (by kernel_rfl) ⟨only_still _, only_still _, only_still _, only_still _, only_still _, only_still _, only_still _, only_still _, only_still _, only_still _, only_still _, only_still _, only_still _, only_still _, trivial⟩ (HR0.out) (by simp) (trivial) ?hst ?hla
    case hfr => (simp only [putAll, Act.put, List.setIfInBounds_toArray, List.set_cons_zero, List.set_cons_succ, Nat.reduceAdd]; rfl)
    case hst =>
      refine ⟨?_, ?_, ?_, ?_, ?_, ?_, ?_, ?_, ?_, ?_, ?_, ?_, ?_, ?_, trivial⟩
      · intro us v hR hn ho K hK
        clear ho
        obtain ⟨r1, r4, r5⟩ := id hR
        have z0 := cell_of_block r1 0
        have z1 := cell_of_block r1 1
        have z2 := cell_of_block r1 2
        have z3 := cell_of_block r1 3
        have z4 := cell_of_block r1 4
        simp at z0 z1 z2 z3 z4
        rw [if_pos (by rfl)]
        go_simp
        refine hK _ _ _ (by simp only [Act.put, List.setIfInBounds_toArray, List.set_cons_zero, List.set_cons_succ, Nat.reduceAdd] <;> rfl) ?_ hR trivial
        refine only_mk (v := v) ?_
        with_reducible rfl
      · intro us v hR hn ho K hK
        obtain ⟨n0, -⟩ := hn
        have n0 : us 0 = _ := n0
        clear ho
        obtain ⟨r1, r4, r5⟩ := id hR
        rw [if_pos (by rfl)]
        go_simp
        refine (right_is ⟨k, ep, sq, ak, b⟩ true HRF.out _).mono ?_
        rintro e v' ⟨rfl, hb⟩
        dsimp only
        exact hK _ _ _ (by simp only [Act.put, List.setIfInBounds_toArray, List.set_cons_zero, List.set_cons_succ, Nat.reduceAdd, n0] <;> rfl) rfl ⟨(hb.block _ (lt_of_block r1)).trans r1, (hb.block _ (lt_of_block r4)).trans r4, r5.trans (hb.mono r5.size)⟩ trivial
      · intro us v hR hn ho K hK
        clear ho
        obtain ⟨r1, r4, r5⟩ := id hR
        have z0 := cell_of_block r1 0
        have z1 := cell_of_block r1 1
        have z2 := cell_of_block r1 2
        have z3 := cell_of_block r1 3
        have z4 := cell_of_block r1 4
        simp at z0 z1 z2 z3 z4
        rw [if_pos (by rfl)]
        go_simp
        refine hK _ _ _ (by simp only [Act.put, List.setIfInBounds_toArray, List.set_cons_zero, List.set_cons_succ, Nat.reduceAdd] <;> rfl) ?_ hR trivial
        refine only_mk (v := v) ?_
        with_reducible rfl
      · intro us v hR hn ho K hK
        obtain ⟨n2, -⟩ := hn
        have n2 : us 2 = _ := n2
        clear ho
        obtain ⟨r1, r4, r5⟩ := id hR
        rw [if_pos (by rfl)]
        go_simp
        refine (refRight_is ⟨k, ep, sq, ak, b⟩ true HRF.out _).mono ?_
        rintro e v' ⟨rfl, hb⟩
        dsimp only
        exact hK _ _ _ (by simp only [Act.put, List.setIfInBounds_toArray, List.set_cons_zero, List.set_cons_succ, Nat.reduceAdd, n2] <;> rfl) rfl ⟨(hb.block _ (lt_of_block r1)).trans r1, (hb.block _ (lt_of_block r4)).trans r4, r5.trans (hb.mono r5.size)⟩ trivial
      · intro us v hR hn ho K hK
        obtain ⟨n1, n3, -⟩ := hn
        have n1 : us 1 = _ := n1
        have n3 : us 3 = _ := n3
        clear ho
        obtain ⟨r1, r4, r5⟩ := id hR
        rw [if_pos (by rfl)]
        go_simp
        refine hK _ _ _ (by simp only [Act.put, List.setIfInBounds_toArray, List.set_cons_zero, List.set_cons_succ, Nat.reduceAdd, n1, n3] <;> rfl) ?_ hR trivial
        refine only_mk (v := v) ?_
        with_reducible rfl
      · intro us v hR hn ho K hK
        obtain ⟨n4, -⟩ := hn
        have n4 : us 4 = _ := n4
        clear ho
        obtain ⟨r1, r4, r5⟩ := id hR
        rw [if_pos (by rfl)]
        go_simp
        refine hK _ _ _ (by simp only [Act.put, List.setIfInBounds_toArray, List.set_cons_zero, List.set_cons_succ, Nat.reduceAdd, n4] <;> rfl) ?_ hR trivial
        refine only_mk (v := v) ?_
        with_reducible rfl
      · intro us v hR hn ho K hK
        obtain ⟨n5, -⟩ := hn
        have n5 : us 5 = _ := n5
        clear ho
        obtain ⟨r1, r4, r5⟩ := id hR
        have z0 := cell_of_block r1 0
        have z1 := cell_of_block r1 1
        have z2 := cell_of_block r1 2
        have z3 := cell_of_block r1 3
        have z4 := cell_of_block r1 4
        simp at z0 z1 z2 z3 z4
        rw [if_pos (by simp [Region.wanted, yielded, n5])]
        go_simp
        refine hK _ _ _ (by simp only [Act.put, List.setIfInBounds_toArray, List.set_cons_zero, List.set_cons_succ, Nat.reduceAdd, n5] <;> rfl) ?_ hR trivial
        refine only_mk (v := v) ?_
        with_reducible rfl
      · intro us v hR hn ho K hK
        obtain ⟨n5, -⟩ := hn
        have n5 : us 5 = _ := n5
        clear ho
        obtain ⟨r1, r4, r5⟩ := id hR
        have z0 := cell_of_block r4 0
        have z1 := cell_of_block r4 1
        have z2 := cell_of_block r4 2
        have z3 := cell_of_block r4 3
        have z4 := cell_of_block r4 4
        simp at z0 z1 z2 z3 z4
        rw [if_pos (by simp [Region.wanted, yielded, n5])]
        go_simp
        refine hK _ _ _ (by simp only [Act.put, List.setIfInBounds_toArray, List.set_cons_zero, List.set_cons_succ, Nat.reduceAdd, n5] <;> rfl) ?_ hR trivial
        refine only_mk (v := v) ?_
        with_reducible rfl
      · intro us v hR hn ho K hK
        obtain ⟨n5, n6, n7, -⟩ := hn
        have n5 : us 5 = _ := n5
        have n6 : us 6 = _ := n6
        have n7 : us 7 = _ := n7
        clear ho
        obtain ⟨r1, r4, r5⟩ := id hR
        rw [if_pos (by simp [Region.wanted, yielded, n5])]
        go_simp
        refine (Same_is ⟨k, ep, sq, ak, b⟩ ⟨k', ep', sq', ak', b'⟩ sm HSM.out _).mono ?_
        rintro e v' ⟨rfl, hb⟩
        dsimp only
        exact hK _ _ _ (by simp only [Act.put, List.setIfInBounds_toArray, List.set_cons_zero, List.set_cons_succ, Nat.reduceAdd, n5, n6, n7] <;> rfl) rfl ⟨(hb.block _ (lt_of_block r1)).trans r1, (hb.block _ (lt_of_block r4)).trans r4, r5.trans (hb.mono r5.size)⟩ trivial
      · intro us v hR hn ho K hK
        obtain ⟨n5, -⟩ := hn
        have n5 : us 5 = _ := n5
        clear ho
        obtain ⟨r1, r4, r5⟩ := id hR
        have z0 := cell_of_block r1 0
        have z1 := cell_of_block r1 1
        have z2 := cell_of_block r1 2
        have z3 := cell_of_block r1 3
        have z4 := cell_of_block r1 4
        simp at z0 z1 z2 z3 z4
        rw [if_pos (by simp [Region.wanted, yielded, n5])]
        go_simp
        refine hK _ _ _ (by simp only [Act.put, List.setIfInBounds_toArray, List.set_cons_zero, List.set_cons_succ, Nat.reduceAdd, n5] <;> rfl) ?_ hR trivial
        refine only_mk (v := v) ?_
        with_reducible rfl
      · intro us v hR hn ho K hK
        obtain ⟨n5, -⟩ := hn
        have n5 : us 5 = _ := n5
        clear ho
        obtain ⟨r1, r4, r5⟩ := id hR
        have z0 := cell_of_block r4 0
        have z1 := cell_of_block r4 1
        have z2 := cell_of_block r4 2
        have z3 := cell_of_block r4 3
        have z4 := cell_of_block r4 4
        simp at z0 z1 z2 z3 z4
        rw [if_pos (by simp [Region.wanted, yielded, n5])]
        go_simp
        refine hK _ _ _ (by simp only [Act.put, List.setIfInBounds_toArray, List.set_cons_zero, List.set_cons_succ, Nat.reduceAdd, n5] <;> rfl) ?_ hR trivial
        refine only_mk (v := v) ?_
        with_reducible rfl
      · intro us v hR hn ho K hK
        obtain ⟨n5, n9, n10, -⟩ := hn
        have n5 : us 5 = _ := n5
        have n9 : us 9 = _ := n9
        have n10 : us 10 = _ := n10
        clear ho
        obtain ⟨r1, r4, r5⟩ := id hR
        rw [if_pos (by simp [Region.wanted, yielded, n5])]
        go_simp
        rw [chain]
        by_cases hq : (k = k' ∧ ep = ep' ∧ sq = sq' ∧ ak = ak' ∧ b.toList = b'.toList)
        · have hs : true = sm := by rw [← HSM.out]; simp [frSame, hq]
          rw [if_pos hq]
          refine hK _ _ _ (by simp only [Act.put, List.setIfInBounds_toArray, List.set_cons_zero, List.set_cons_succ, Nat.reduceAdd, n5, n9, n10] <;> rfl) ?_ hR trivial
          refine only_mk (v := v) ?_
          rw [hs]
        · have hs : false = sm := by rw [← HSM.out, eq_comm, Bool.eq_false_iff]; intro hh; exact hq (by simpa [frSame, and_assoc] using hh)
          rw [if_neg hq]
          refine hK _ _ _ (by simp only [Act.put, List.setIfInBounds_toArray, List.set_cons_zero, List.set_cons_succ, Nat.reduceAdd, n5, n9, n10] <;> rfl) ?_ hR trivial
          refine only_mk (v := v) ?_
          rw [hs]
      · intro us v hR hn ho K hK
        obtain ⟨n5, n8, n11, -⟩ := hn
        have n5 : us 5 = _ := n5
        have n8 : us 8 = _ := n8
        have n11 : us 11 = _ := n11
        clear ho
        obtain ⟨r1, r4, r5⟩ := id hR
        have hq : (sm != sm) = false := by simp
        rw [if_pos (by simp [Region.wanted, yielded, n5, n8, n11])]
        go_simp
        refine hK _ _ _ (by simp only [Act.put, List.setIfInBounds_toArray, List.set_cons_zero, List.set_cons_succ, Nat.reduceAdd, n5, n8, n11] <;> rfl) ?_ hR trivial
        refine only_mk (v := v) ?_
        with_reducible rfl
      · intro us v hR hn ho K hK
        obtain ⟨n5, n12, -⟩ := hn
        have n5 : us 5 = _ := n5
        have n12 : us 12 = _ := n12
        clear ho
        obtain ⟨r1, r4, r5⟩ := id hR
        rw [if_pos (by rfl)]
        go_simp
        refine hK _ _ _ (by simp only [Act.put, List.setIfInBounds_toArray, List.set_cons_zero, List.set_cons_succ, Nat.reduceAdd, n5, n12] <;> rfl) ?_ hR trivial
        refine only_mk (v := v) ?_
        with_reducible rfl
    case hla =>
      intro us v hR hl
      obtain ⟨n0, n1, n2, n3, n4, n5, n6, n7, n8, n9, n10, n11, n12, n13, -⟩ := need_last hl [0, 1, 2, 3, 4, 5, 6, 7, 8, 9, 10, 11, 12, 13] (by kernel_rfl)
      have n0 : us 0 = _ := n0
      have n1 : us 1 = _ := n1
      have n2 : us 2 = _ := n2
      have n3 : us 3 = _ := n3
      have n4 : us 4 = _ := n4
      have n5 : us 5 = _ := n5
      have n6 : us 6 = _ := n6
      have n7 : us 7 = _ := n7
      have n8 : us 8 = _ := n8
      have n9 : us 9 = _ := n9
      have n10 : us 10 = _ := n10
      have n11 : us 11 = _ := n11
      have n12 : us 12 = _ := n12
      have n13 : us 13 = _ := n13
      obtain ⟨r1, r4, r5⟩ := id hR
      simp only [n0, n1, n2, n3, n4, n5, n6, n7, n8, n9, n10, n11, n12, n13]
      clear hl n0 n1 n2 n3 n4 n5 n6 n7 n8 n9 n10 n11 n12 n13
      have hB2 := r5
      have z0 := cell_of_block r1 0
      have z1 := cell_of_block r1 1
      have z2 := cell_of_block r1 2
      have z3 := cell_of_block r1 3
      have z4 := cell_of_block r1 4
      simp at z0 z1 z2 z3 z4
      go_wp2_with fail
      refine (refRight_is ⟨k, ep, sq, ak, b⟩ true HRF.out _).mono ?_
      rintro e w3 ⟨rfl, hb3⟩
      have hB3 : Below w.heap.size w w3 := r5.trans (hb3.mono r5.size)
      have F3 := (hb3.block _ (lt_of_block r1)).trans r1
      clear z0 z1 z2 z3 z4
      have f0 := cell_of_block F3 0
      have f1 := cell_of_block F3 1
      have f2 := cell_of_block F3 2
      have f3 := cell_of_block F3 3
      have f4 := cell_of_block F3 4
      simp at f0 f1 f2 f3 f4
      go_wp2_with fail
      refine (refPut_is ⟨k, ep, sq, ak, b⟩ S HRF.out kf HS.out _).mono ?_
      rintro e w4 ⟨rfl, hb4⟩
      have hB4 : Below w.heap.size w w4 := hB3.trans (hb4.mono hB3.size)
      go_wp2_with fail
      go_ret
      exact ⟨ret_bool (by simp), hB4⟩
end Go.Proofs.YtffejniibljjeaaDoor.Frame
