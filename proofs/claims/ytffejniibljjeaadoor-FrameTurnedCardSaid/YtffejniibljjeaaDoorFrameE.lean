/- Layer 6: the reference Put hands back a frame's bytes. Conditions: a frame that may be, numbers without sign. -/
import Derived.Test.YtffejniibljjeaaDoorFrameD
namespace Go.Proofs.YtffejniibljjeaaDoor.Frame
set_option linter.unusedSimpArgs false
set_option linter.unusedVariables false
open Go.RowKit
open Go.Proofs.YtffejniibljjeaaDoor
open Go.Proofs.YtffejniibljjeaaDoor.Link (Fr right_is right_any frBox bcell ret_bool empty_size)

theorem cat_size (a b : ByteArray) : (a ++ b).size = a.size + b.size := by simp
theorem high_is (n many : Nat) (hm : many ≤ 8) (hn : n < 18446744073709551616) (n' m' : Int) (hn' : n' = (n : Int)) (hm' : m' = (many : Int)) (E : ByteArray) (hE : E = ⟨(hi n many).toArray⟩) (w : World) :
    Calls Tryd.prog 21 #[.int .u64 n', .int .i64 m'] w fun e w' => e = .returned (.string E) ∧ Below w.heap.size w w' := by
  subst hn' hm' hE; exact high_any n many hm hn w
theorem refTail_is (sum : BitVec 32) (n' : Int) (hn : n' = val sum) (E : ByteArray) (hE : E = ⟨(Crc.tail sum).toArray⟩) (w : World) :
    Calls Tryd.prog 22 #[.int .u32 n'] w fun e w' => e = .returned (.string E) ∧ Below w.heap.size w w' := by
  subst hn hE; exact refTail_any sum w
theorem refSum_is (s : ByteArray) (w : World) (hs : s.size ≤ maxLen) :
    Calls Tryd.prog 23 #[.int .u32 0, .string s] w fun e w' => e = .returned (.int .u32 (val (Crc.sum s.data.toList))) ∧ w = w' := by
  have h := refMore_any 0 s w hs
  rw [show val 0 = 0 from rfl] at h
  exact h
theorem ba_append (l m : List UInt8) : (⟨l.toArray⟩ : ByteArray) ++ ⟨m.toArray⟩ = ⟨(l ++ m).toArray⟩ := by apply ByteArray.ext; simp
theorem ba_size (l : List UInt8) : (⟨l.toArray⟩ : ByteArray).size = l.length := rfl
theorem ret_s {a b : ByteArray} (h : a = b) : Ending.returned (.string a) = .returned (.string b) := by rw [h]
set_option maxRecDepth 100000 in
set_option maxHeartbeats 4000000 in
theorem refPut_any (k ep sq ak : Nat) (b : ByteArray) (w : World) (hr : Fr.right ⟨(k : Int), (ep : Int), (sq : Int), (ak : Int), b⟩ = true) (hsq : sq < 18446744073709551616) (hak : ak < 18446744073709551616) :
    Calls Tryd.prog 14 #[.agg #[.int .i64 (k : Int), .int .i64 (ep : Int), .int .u64 (sq : Int), .int .u64 (ak : Int), .string b]] w fun e w' => e = .returned (.string ⟨(put ⟨(k : Int), (ep : Int), (sq : Int), (ak : Int), b⟩).toArray⟩) ∧ Below w.heap.size w w' := by
  obtain ⟨q0, q1, q2, q3⟩ := right_iff.1 hr
  have q1 : ep ≤ 65535 := by simp only at q1; omega
  have q2 : b.size ≤ 64 := q2
  have q4 : k ≤ 2 := by simp only at q3; omega
  clear hr q0 q3
  obtain ⟨B0, hB0⟩ : ∃ B0 : ByteArray, B0 = ⟨([1, Crc.b8 k] : List UInt8).toArray⟩ := ⟨_, rfl⟩
  obtain ⟨E1, hE1⟩ : ∃ E : ByteArray, E = ⟨(hi ep 2).toArray⟩ := ⟨_, rfl⟩
  obtain ⟨E2, hE2⟩ : ∃ E : ByteArray, E = ⟨(hi sq 8).toArray⟩ := ⟨_, rfl⟩
  obtain ⟨E3, hE3⟩ : ∃ E : ByteArray, E = ⟨(hi ak 8).toArray⟩ := ⟨_, rfl⟩
  obtain ⟨E4, hE4⟩ : ∃ E : ByteArray, E = ⟨(hi b.size 2).toArray⟩ := ⟨_, rfl⟩
  obtain ⟨T0, hT0⟩ : ∃ T : ByteArray, T = ⟨#[78]⟩ ++ B0 := ⟨_, rfl⟩
  obtain ⟨T1, hT1⟩ : ∃ T : ByteArray, T = T0 ++ E1 := ⟨_, rfl⟩
  obtain ⟨T2, hT2⟩ : ∃ T : ByteArray, T = T1 ++ E2 := ⟨_, rfl⟩
  obtain ⟨T3, hT3⟩ : ∃ T : ByteArray, T = T2 ++ E3 := ⟨_, rfl⟩
  obtain ⟨T4, hT4⟩ : ∃ T : ByteArray, T = T3 ++ E4 := ⟨_, rfl⟩
  obtain ⟨T5, hT5⟩ : ∃ T : ByteArray, T = T4 ++ b := ⟨_, rfl⟩
  have s0 : B0.size ≤ 2 := by rw [hB0]; exact Nat.le_refl _
  have s1 : E1.size ≤ 2 := by rw [hE1, ba_size, hi_length]; exact Nat.le_refl _
  have s2 : E2.size ≤ 8 := by rw [hE2, ba_size, hi_length]; exact Nat.le_refl _
  have s3 : E3.size ≤ 8 := by rw [hE3, ba_size, hi_length]; exact Nat.le_refl _
  have s4 : E4.size ≤ 2 := by rw [hE4, ba_size, hi_length]; exact Nat.le_refl _
  have t0 : T0.size ≤ 3 := by
    rw [hT0, cat_size]; have : (⟨#[78]⟩ : ByteArray).size = 1 := rfl
    omega
  have t1 : T1.size ≤ 5 := by rw [hT1, cat_size]; omega
  have t2 : T2.size ≤ 13 := by rw [hT2, cat_size]; omega
  have t3 : T3.size ≤ 21 := by rw [hT3, cat_size]; omega
  have t4 : T4.size ≤ 23 := by rw [hT4, cat_size]; omega
  have t5 : T5.size ≤ 87 := by rw [hT5, cat_size]; omega
  have hh : T5.data.toList = head ⟨(k : Int), (ep : Int), (sq : Int), (ak : Int), b⟩ := by
    rw [hT5, hT4, hT3, hT2, hT1, hT0, hB0, hE1, hE2, hE3, hE4]
    simp [head]
  have HB0 := Lib.hid hB0
  have HE1 := Lib.hid hE1
  have HE2 := Lib.hid hE2
  have HE3 := Lib.hid hE3
  have HE4 := Lib.hid hE4
  have HT0 := Lib.hid hT0
  have HT1 := Lib.hid hT1
  have HT2 := Lib.hid hT2
  have HT3 := Lib.hid hT3
  have HT4 := Lib.hid hT4
  have HT5 := Lib.hid hT5
  have HH := Lib.hid hh
  have HE1n := Lib.hid (show ep < 18446744073709551616 by omega)
  have HE2n := Lib.hid hsq
  have HE3n := Lib.hid hak
  have HE4n := Lib.hid (show b.size < 18446744073709551616 by omega)
  clear hB0 hE1 hE2 hE3 hE4 hT0 hT1 hT2 hT3 hT4 hT5 hh hsq hak
  have hwb : IntKind.u64.wrap (b.size : Int) = (b.size : Int) := IntWalk.u64_in _ (by omega)
  have hwe : IntKind.u64.wrap (ep : Int) = (ep : Int) := IntWalk.u64_in _ (by omega)
  have hwk : (k : Int) % 256 = (k : Int) := by omega
  have hwk2 : IntKind.u8.wrap (k : Int) = (k : Int) := IntWalk.u8_in _ (by omega)
  have hal : Below w.heap.size w (w.alloc (.cells #[.int .i64 (k : Int), .int .i64 (ep : Int), .int .u64 (sq : Int), .int .u64 (ak : Int), .string b] 25)) := (Below.refl _ _).alloc (Nat.le_refl _) _
  have HAL := Lib.hid hal
  clear hal
  go_enter Tryd.func14, Tryd.ntmps14
  go_wp2_with fail
  have HR0 := Lib.hid (show _ ∧ _ ∧ _ ∧ _ ∧ _ ∧ Below w.heap.size w (w.alloc (.cells #[.int .i64 (k : Int), .int .i64 (ep : Int), .int .u64 (sq : Int), .int .u64 (ak : Int), .string b] 25)).drew ∧ w.heap.size < (w.alloc (.cells #[.int .i64 (k : Int), .int .i64 (ep : Int), .int .u64 (sq : Int), .int .u64 (ak : Int), .string b] 25)).drew.heap.size from ⟨show (w.alloc (.cells #[.int .i64 (k : Int), .int .i64 (ep : Int), .int .u64 (sq : Int), .int .u64 (ak : Int), .string b] 25)).drew.cell? ⟨w.heap.size, 0, none⟩ = some (.int .i64 (k : Int)) by simp, show (w.alloc (.cells #[.int .i64 (k : Int), .int .i64 (ep : Int), .int .u64 (sq : Int), .int .u64 (ak : Int), .string b] 25)).drew.cell? ⟨w.heap.size, 1, none⟩ = some (.int .i64 (ep : Int)) by simp, show (w.alloc (.cells #[.int .i64 (k : Int), .int .i64 (ep : Int), .int .u64 (sq : Int), .int .u64 (ak : Int), .string b] 25)).drew.cell? ⟨w.heap.size, 2, none⟩ = some (.int .u64 (sq : Int)) by simp, show (w.alloc (.cells #[.int .i64 (k : Int), .int .i64 (ep : Int), .int .u64 (sq : Int), .int .u64 (ak : Int), .string b] 25)).drew.cell? ⟨w.heap.size, 3, none⟩ = some (.int .u64 (ak : Int)) by simp, show (w.alloc (.cells #[.int .i64 (k : Int), .int .i64 (ep : Int), .int .u64 (sq : Int), .int .u64 (ak : Int), .string b] 25)).drew.cell? ⟨w.heap.size, 4, none⟩ = some (.string b) by simp, HAL.out.drew, by simp⟩)
  refine' wp_flow [only 0 _, only 1 _, only 2 _, own 3 (fun x v => ∃ g c, x = .slice (some ⟨g, 0, none⟩) 2 c ∧ Vec v [g] 1 (some ⟨g, 0, none⟩) 2 c (([1, Crc.b8 k] : List UInt8).map bv)), only 4 (.string B0), only 5 (.string T0), only 6 _, only 7 _, only 8 _, only 9 (.string E1), only 10 (.string T1), only 11 _, only 12 _, only 13 (.string E2), only 14 (.string T2), only 15 _, only 16 _, only 17 (.string E3), only 18 (.string T3), only 19 _, only 20 _, only 21 _, only 22 _, only 23 (.string E4), only 24 (.string T4), only 25 _, only 26 _, only 27 (.string T5), only 28 _] (fun v => v.cell? ⟨w.heap.size, 0, none⟩ = some (.int .i64 (k : Int)) ∧ v.cell? ⟨w.heap.size, 1, none⟩ = some (.int .i64 (ep : Int)) ∧ v.cell? ⟨w.heap.size, 2, none⟩ = some (.int .u64 (sq : Int)) ∧ v.cell? ⟨w.heap.size, 3, none⟩ = some (.int .u64 (ak : Int)) ∧ v.cell? ⟨w.heap.size, 4, none⟩ = some (.string b) ∧ Below w.heap.size w v ∧ w.heap.size < v.heap.size) [[], [0], [1], [2], [3], [4], [], [6], [7], [8], [5, 9], [], [11], [12], [10, 13], [], [15], [16], [14, 17], [], [19], [20], [21], [22], [18, 23], [], [25], [24, 26], [27]] [[], [], [], [], [3], [], [], [], [], [], [], [], [], [], [], [], [], [], [], [], [], [], [], [], [], [], [], [], []] [[], [], [], [], [], [], [], [], [], [], [], [], [], [], [], [], [], [], [], [], [], [], [], [], [], [], [], [], []] [[], [], [], [], [], [], [3], [3], [3], [3], [], [3], [3], [3], [], [3], [3], [3], [], [3], [3], [3], [3], [3], [], [3], [3], [], []] [3] [0, 1, 3, 7, 15, 31, 0, 64, 192, 448, 1023, 0, 2048, 6144, 16383, 0, 32768, 98304, 262143, 0, 524288, 1572864, 3670016, 7864320, 16777215, 0, 33554432, 134217727, 268435455] _ (fun us => ?hfr) (by kernel_rfl) (by kernel_rfl) (by kernel_rfl) ⟨only_still _, only_still _, only_still _, trivial, only_still _, only_still _, only_still _, only_still _, only_still _, only_still _, only_still _, only_still _, only_still _, only_still _, only_still _, only_still _, only_still _, only_still _, only_still _, only_still _, only_still _, only_still _, only_still _, only_still _, only_still _, only_still _, only_still _, only_still _, only_still _, trivial⟩ (HR0.out) (by simp) (trivial) ?hst ?hla
  case hfr => (simp only [putAll, Act.put, List.setIfInBounds_toArray, List.set_cons_zero, List.set_cons_succ, Nat.reduceAdd]; rfl)
  case hst =>
    refine ⟨?_, ?_, ?_, ?_, ?_, ?_, ?_, ?_, ?_, ?_, ?_, ?_, ?_, ?_, ?_, ?_, ?_, ?_, ?_, ?_, ?_, ?_, ?_, ?_, ?_, ?_, ?_, ?_, ?_, trivial⟩
    · intro us v hR hn ho K hK
      clear ho
      obtain ⟨r0, r1, r2, r3, r4, r5, r6⟩ := id hR
      rw [if_pos (by rfl)]
      go_simp
      refine hK _ _ _ (by simp only [Act.put, List.setIfInBounds_toArray, List.set_cons_zero, List.set_cons_succ, Nat.reduceAdd] <;> rfl) ?_ hR trivial
      refine only_mk (v := v) ?_
      with_reducible rfl
    · intro us v hR hn ho K hK
      obtain ⟨n0, -⟩ := hn
      have n0 : us 0 = _ := n0
      clear ho
      obtain ⟨r0, r1, r2, r3, r4, r5, r6⟩ := id hR
      rw [if_pos (by rfl)]
      go_simp
      refine hK _ _ _ (by simp only [Act.put, List.setIfInBounds_toArray, List.set_cons_zero, List.set_cons_succ, Nat.reduceAdd, n0] <;> rfl) ?_ hR trivial
      refine only_mk (v := v) ?_
      with_reducible rfl
    · intro us v hR hn ho K hK
      obtain ⟨n1, -⟩ := hn
      have n1 : us 1 = _ := n1
      clear ho
      obtain ⟨r0, r1, r2, r3, r4, r5, r6⟩ := id hR
      rw [if_pos (by rfl)]
      go_simp
      refine hK _ _ _ (by simp only [Act.put, List.setIfInBounds_toArray, List.set_cons_zero, List.set_cons_succ, Nat.reduceAdd, n1] <;> rfl) ?_ hR trivial
      refine only_mk (v := v) ?_
      with_reducible rfl
    · intro us v hR hn ho K hK
      obtain ⟨n2, -⟩ := hn
      have n2 : us 2 = _ := n2
      clear ho
      obtain ⟨r0, r1, r2, r3, r4, r5, r6⟩ := id hR
      rw [if_pos (by rfl)]
      go_simp
      have hal : Below v.heap.size v (v.alloc (.cells #[.int .u8 1, .int .u8 (k : Int)] 5)) := (Below.refl _ _).alloc (Nat.le_refl _) _
      refine hK _ _ _ (by simp only [Act.put, List.setIfInBounds_toArray, List.set_cons_zero, List.set_cons_succ, Nat.reduceAdd, n2] <;> rfl) ⟨_, _, rfl, ?_⟩ ⟨(hal.cell (p := ⟨w.heap.size, 0, none⟩) r6).trans r0, (hal.cell (p := ⟨w.heap.size, 1, none⟩) r6).trans r1, (hal.cell (p := ⟨w.heap.size, 2, none⟩) r6).trans r2, (hal.cell (p := ⟨w.heap.size, 3, none⟩) r6).trans r3, (hal.cell (p := ⟨w.heap.size, 4, none⟩) r6).trans r4, r5.trans (hal.mono r5.size), Nat.lt_of_lt_of_le r6 hal.size⟩ trivial
      have h0 := Vec.of_new (w := v.alloc (.cells #[.int .u8 1, .int .u8 (k : Int)] 5)) (e := 5) (g := v.heap.size) #[.int .u8 1, .int .u8 (k : Int)] 1 2 2 (by omega) (by decide) rfl (heap_alloc_new v _)
      have e : (([1, Crc.b8 k] : List UInt8).map bv) = #[Value.int .u8 1, .int .u8 (k : Int)].toList.take (2 * 1) := by
        have e2 : bv (Crc.b8 k) = .int .u8 (k : Int) := by unfold bv; rw [b8_toNat, Nat.mod_eq_of_lt (by omega)]
        simp only [List.map_cons, List.map_nil, e2]; rfl
      rw [e]; exact h0
    · intro us v hR hn ho K hK
      obtain ⟨n3, -⟩ := hn
      clear ho
      obtain ⟨r0, r1, r2, r3, r4, r5, r6⟩ := id hR
      obtain ⟨g, c, n3, hv⟩ := n3
      have hcv := conv_vec hv (by omega)
      rw [← HB0.out] at hcv
      rw [if_pos (by rfl)]
      go_simp
      refine hK _ _ _ (by simp only [Act.put, List.setIfInBounds_toArray, List.set_cons_zero, List.set_cons_succ, Nat.reduceAdd, n3] <;> rfl) rfl hR trivial
    · intro us v hR hn ho K hK
      obtain ⟨n4, -⟩ := hn
      have n4 : us 4 = _ := n4
      clear ho
      obtain ⟨r0, r1, r2, r3, r4, r5, r6⟩ := id hR
      have z0 : ¬ (9223372036854775807 < 1 + B0.size) := by omega
      rw [if_pos (by rfl)]
      go_simp
      refine hK _ _ _ (by simp only [Act.put, List.setIfInBounds_toArray, List.set_cons_zero, List.set_cons_succ, Nat.reduceAdd, n4] <;> rfl) ?_ hR trivial
      refine only_mk (v := v) ?_
      rw [HT0.out]
    · intro us v hR hn ho K hK
      clear ho
      obtain ⟨r0, r1, r2, r3, r4, r5, r6⟩ := id hR
      rw [if_pos (by rfl)]
      go_simp
      refine hK _ _ _ (by simp only [Act.put, List.setIfInBounds_toArray, List.set_cons_zero, List.set_cons_succ, Nat.reduceAdd] <;> rfl) ?_ hR ⟨fun h => h, trivial⟩
      refine only_mk (v := v) ?_
      with_reducible rfl
    · intro us v hR hn ho K hK
      obtain ⟨n6, -⟩ := hn
      have n6 : us 6 = _ := n6
      clear ho
      obtain ⟨r0, r1, r2, r3, r4, r5, r6⟩ := id hR
      rw [if_pos (by rfl)]
      go_simp
      refine hK _ _ _ (by simp only [Act.put, List.setIfInBounds_toArray, List.set_cons_zero, List.set_cons_succ, Nat.reduceAdd, n6] <;> rfl) ?_ hR ⟨fun h => h, trivial⟩
      refine only_mk (v := v) ?_
      with_reducible rfl
    · intro us v hR hn ho K hK
      obtain ⟨n7, -⟩ := hn
      have n7 : us 7 = _ := n7
      clear ho
      obtain ⟨r0, r1, r2, r3, r4, r5, r6⟩ := id hR
      rw [if_pos (by rfl)]
      go_simp
      refine hK _ _ _ (by simp only [Act.put, List.setIfInBounds_toArray, List.set_cons_zero, List.set_cons_succ, Nat.reduceAdd, n7] <;> rfl) ?_ hR ⟨fun h => h, trivial⟩
      refine only_mk (v := v) ?_
      with_reducible rfl
    · intro us v hR hn ho K hK
      obtain ⟨n8, -⟩ := hn
      have n8 : us 8 = _ := n8
      clear ho
      obtain ⟨r0, r1, r2, r3, r4, r5, r6⟩ := id hR
      rw [if_pos (by rfl)]
      go_simp
      with_reducible refine (high_is ep 2 (by omega) HE1n.out (ep : Int) 2 rfl rfl E1 HE1.out _).mono ?_
      rintro e v' ⟨rfl, hbh⟩
      dsimp only
      exact hK _ _ _ (by simp only [Act.put, List.setIfInBounds_toArray, List.set_cons_zero, List.set_cons_succ, Nat.reduceAdd, n8] <;> rfl) rfl ⟨(hbh.cell (p := ⟨w.heap.size, 0, none⟩) r6).trans r0, (hbh.cell (p := ⟨w.heap.size, 1, none⟩) r6).trans r1, (hbh.cell (p := ⟨w.heap.size, 2, none⟩) r6).trans r2, (hbh.cell (p := ⟨w.heap.size, 3, none⟩) r6).trans r3, (hbh.cell (p := ⟨w.heap.size, 4, none⟩) r6).trans r4, r5.trans (hbh.mono r5.size), Nat.lt_of_lt_of_le r6 hbh.size⟩ ⟨fun ⟨g, c, h1, h2⟩ => ⟨g, c, h1, h2.after hbh⟩, trivial⟩
    · intro us v hR hn ho K hK
      obtain ⟨n5, n9, -⟩ := hn
      have n5 : us 5 = _ := n5
      have n9 : us 9 = _ := n9
      clear ho
      obtain ⟨r0, r1, r2, r3, r4, r5, r6⟩ := id hR
      have z0 : ¬ (9223372036854775807 < T0.size + E1.size) := by omega
      rw [if_pos (by rfl)]
      go_simp
      refine hK _ _ _ (by simp only [Act.put, List.setIfInBounds_toArray, List.set_cons_zero, List.set_cons_succ, Nat.reduceAdd, n5, n9] <;> rfl) ?_ hR trivial
      refine only_mk (v := v) ?_
      rw [HT1.out]
    · intro us v hR hn ho K hK
      clear ho
      obtain ⟨r0, r1, r2, r3, r4, r5, r6⟩ := id hR
      rw [if_pos (by rfl)]
      go_simp
      refine hK _ _ _ (by simp only [Act.put, List.setIfInBounds_toArray, List.set_cons_zero, List.set_cons_succ, Nat.reduceAdd] <;> rfl) ?_ hR ⟨fun h => h, trivial⟩
      refine only_mk (v := v) ?_
      with_reducible rfl
    · intro us v hR hn ho K hK
      obtain ⟨n11, -⟩ := hn
      have n11 : us 11 = _ := n11
      clear ho
      obtain ⟨r0, r1, r2, r3, r4, r5, r6⟩ := id hR
      rw [if_pos (by rfl)]
      go_simp
      refine hK _ _ _ (by simp only [Act.put, List.setIfInBounds_toArray, List.set_cons_zero, List.set_cons_succ, Nat.reduceAdd, n11] <;> rfl) ?_ hR ⟨fun h => h, trivial⟩
      refine only_mk (v := v) ?_
      with_reducible rfl
    · intro us v hR hn ho K hK
      obtain ⟨n12, -⟩ := hn
      have n12 : us 12 = _ := n12
      clear ho
      obtain ⟨r0, r1, r2, r3, r4, r5, r6⟩ := id hR
      rw [if_pos (by rfl)]
      go_simp
      with_reducible refine (high_is sq 8 (by omega) HE2n.out (sq : Int) 8 rfl rfl E2 HE2.out _).mono ?_
      rintro e v' ⟨rfl, hbh⟩
      dsimp only
      exact hK _ _ _ (by simp only [Act.put, List.setIfInBounds_toArray, List.set_cons_zero, List.set_cons_succ, Nat.reduceAdd, n12] <;> rfl) rfl ⟨(hbh.cell (p := ⟨w.heap.size, 0, none⟩) r6).trans r0, (hbh.cell (p := ⟨w.heap.size, 1, none⟩) r6).trans r1, (hbh.cell (p := ⟨w.heap.size, 2, none⟩) r6).trans r2, (hbh.cell (p := ⟨w.heap.size, 3, none⟩) r6).trans r3, (hbh.cell (p := ⟨w.heap.size, 4, none⟩) r6).trans r4, r5.trans (hbh.mono r5.size), Nat.lt_of_lt_of_le r6 hbh.size⟩ ⟨fun ⟨g, c, h1, h2⟩ => ⟨g, c, h1, h2.after hbh⟩, trivial⟩
    · intro us v hR hn ho K hK
      obtain ⟨n10, n13, -⟩ := hn
      have n10 : us 10 = _ := n10
      have n13 : us 13 = _ := n13
      clear ho
      obtain ⟨r0, r1, r2, r3, r4, r5, r6⟩ := id hR
      have z0 : ¬ (9223372036854775807 < T1.size + E2.size) := by omega
      rw [if_pos (by rfl)]
      go_simp
      refine hK _ _ _ (by simp only [Act.put, List.setIfInBounds_toArray, List.set_cons_zero, List.set_cons_succ, Nat.reduceAdd, n10, n13] <;> rfl) ?_ hR trivial
      refine only_mk (v := v) ?_
      rw [HT2.out]
    · intro us v hR hn ho K hK
      clear ho
      obtain ⟨r0, r1, r2, r3, r4, r5, r6⟩ := id hR
      rw [if_pos (by rfl)]
      go_simp
      refine hK _ _ _ (by simp only [Act.put, List.setIfInBounds_toArray, List.set_cons_zero, List.set_cons_succ, Nat.reduceAdd] <;> rfl) ?_ hR ⟨fun h => h, trivial⟩
      refine only_mk (v := v) ?_
      with_reducible rfl
    · intro us v hR hn ho K hK
      obtain ⟨n15, -⟩ := hn
      have n15 : us 15 = _ := n15
      clear ho
      obtain ⟨r0, r1, r2, r3, r4, r5, r6⟩ := id hR
      rw [if_pos (by rfl)]
      go_simp
      refine hK _ _ _ (by simp only [Act.put, List.setIfInBounds_toArray, List.set_cons_zero, List.set_cons_succ, Nat.reduceAdd, n15] <;> rfl) ?_ hR ⟨fun h => h, trivial⟩
      refine only_mk (v := v) ?_
      with_reducible rfl
    · intro us v hR hn ho K hK
      obtain ⟨n16, -⟩ := hn
      have n16 : us 16 = _ := n16
      clear ho
      obtain ⟨r0, r1, r2, r3, r4, r5, r6⟩ := id hR
      rw [if_pos (by rfl)]
      go_simp
      with_reducible refine (high_is ak 8 (by omega) HE3n.out (ak : Int) 8 rfl rfl E3 HE3.out _).mono ?_
      rintro e v' ⟨rfl, hbh⟩
      dsimp only
      exact hK _ _ _ (by simp only [Act.put, List.setIfInBounds_toArray, List.set_cons_zero, List.set_cons_succ, Nat.reduceAdd, n16] <;> rfl) rfl ⟨(hbh.cell (p := ⟨w.heap.size, 0, none⟩) r6).trans r0, (hbh.cell (p := ⟨w.heap.size, 1, none⟩) r6).trans r1, (hbh.cell (p := ⟨w.heap.size, 2, none⟩) r6).trans r2, (hbh.cell (p := ⟨w.heap.size, 3, none⟩) r6).trans r3, (hbh.cell (p := ⟨w.heap.size, 4, none⟩) r6).trans r4, r5.trans (hbh.mono r5.size), Nat.lt_of_lt_of_le r6 hbh.size⟩ ⟨fun ⟨g, c, h1, h2⟩ => ⟨g, c, h1, h2.after hbh⟩, trivial⟩
    · intro us v hR hn ho K hK
      obtain ⟨n14, n17, -⟩ := hn
      have n14 : us 14 = _ := n14
      have n17 : us 17 = _ := n17
      clear ho
      obtain ⟨r0, r1, r2, r3, r4, r5, r6⟩ := id hR
      have z0 : ¬ (9223372036854775807 < T2.size + E3.size) := by omega
      rw [if_pos (by rfl)]
      go_simp
      refine hK _ _ _ (by simp only [Act.put, List.setIfInBounds_toArray, List.set_cons_zero, List.set_cons_succ, Nat.reduceAdd, n14, n17] <;> rfl) ?_ hR trivial
      refine only_mk (v := v) ?_
      rw [HT3.out]
    · intro us v hR hn ho K hK
      clear ho
      obtain ⟨r0, r1, r2, r3, r4, r5, r6⟩ := id hR
      rw [if_pos (by rfl)]
      go_simp
      refine hK _ _ _ (by simp only [Act.put, List.setIfInBounds_toArray, List.set_cons_zero, List.set_cons_succ, Nat.reduceAdd] <;> rfl) ?_ hR ⟨fun h => h, trivial⟩
      refine only_mk (v := v) ?_
      with_reducible rfl
    · intro us v hR hn ho K hK
      obtain ⟨n19, -⟩ := hn
      have n19 : us 19 = _ := n19
      clear ho
      obtain ⟨r0, r1, r2, r3, r4, r5, r6⟩ := id hR
      rw [if_pos (by rfl)]
      go_simp
      refine hK _ _ _ (by simp only [Act.put, List.setIfInBounds_toArray, List.set_cons_zero, List.set_cons_succ, Nat.reduceAdd, n19] <;> rfl) ?_ hR ⟨fun h => h, trivial⟩
      refine only_mk (v := v) ?_
      with_reducible rfl
    · intro us v hR hn ho K hK
      obtain ⟨n20, -⟩ := hn
      have n20 : us 20 = _ := n20
      clear ho
      obtain ⟨r0, r1, r2, r3, r4, r5, r6⟩ := id hR
      rw [if_pos (by rfl)]
      go_simp
      refine hK _ _ _ (by simp only [Act.put, List.setIfInBounds_toArray, List.set_cons_zero, List.set_cons_succ, Nat.reduceAdd, n20] <;> rfl) ?_ hR ⟨fun h => h, trivial⟩
      refine only_mk (v := v) ?_
      with_reducible rfl
    · intro us v hR hn ho K hK
      obtain ⟨n21, -⟩ := hn
      have n21 : us 21 = _ := n21
      clear ho
      obtain ⟨r0, r1, r2, r3, r4, r5, r6⟩ := id hR
      rw [if_pos (by rfl)]
      go_simp
      refine hK _ _ _ (by simp only [Act.put, List.setIfInBounds_toArray, List.set_cons_zero, List.set_cons_succ, Nat.reduceAdd, n21] <;> rfl) ?_ hR ⟨fun h => h, trivial⟩
      refine only_mk (v := v) ?_
      with_reducible rfl
    · intro us v hR hn ho K hK
      obtain ⟨n22, -⟩ := hn
      have n22 : us 22 = _ := n22
      clear ho
      obtain ⟨r0, r1, r2, r3, r4, r5, r6⟩ := id hR
      rw [if_pos (by rfl)]
      go_simp
      with_reducible refine (high_is b.size 2 (by omega) HE4n.out (b.size : Int) 2 rfl rfl E4 HE4.out _).mono ?_
      rintro e v' ⟨rfl, hbh⟩
      dsimp only
      exact hK _ _ _ (by simp only [Act.put, List.setIfInBounds_toArray, List.set_cons_zero, List.set_cons_succ, Nat.reduceAdd, n22] <;> rfl) rfl ⟨(hbh.cell (p := ⟨w.heap.size, 0, none⟩) r6).trans r0, (hbh.cell (p := ⟨w.heap.size, 1, none⟩) r6).trans r1, (hbh.cell (p := ⟨w.heap.size, 2, none⟩) r6).trans r2, (hbh.cell (p := ⟨w.heap.size, 3, none⟩) r6).trans r3, (hbh.cell (p := ⟨w.heap.size, 4, none⟩) r6).trans r4, r5.trans (hbh.mono r5.size), Nat.lt_of_lt_of_le r6 hbh.size⟩ ⟨fun ⟨g, c, h1, h2⟩ => ⟨g, c, h1, h2.after hbh⟩, trivial⟩
    · intro us v hR hn ho K hK
      obtain ⟨n18, n23, -⟩ := hn
      have n18 : us 18 = _ := n18
      have n23 : us 23 = _ := n23
      clear ho
      obtain ⟨r0, r1, r2, r3, r4, r5, r6⟩ := id hR
      have z0 : ¬ (9223372036854775807 < T3.size + E4.size) := by omega
      rw [if_pos (by rfl)]
      go_simp
      refine hK _ _ _ (by simp only [Act.put, List.setIfInBounds_toArray, List.set_cons_zero, List.set_cons_succ, Nat.reduceAdd, n18, n23] <;> rfl) ?_ hR trivial
      refine only_mk (v := v) ?_
      rw [HT4.out]
    · intro us v hR hn ho K hK
      clear ho
      obtain ⟨r0, r1, r2, r3, r4, r5, r6⟩ := id hR
      rw [if_pos (by rfl)]
      go_simp
      refine hK _ _ _ (by simp only [Act.put, List.setIfInBounds_toArray, List.set_cons_zero, List.set_cons_succ, Nat.reduceAdd] <;> rfl) ?_ hR ⟨fun h => h, trivial⟩
      refine only_mk (v := v) ?_
      with_reducible rfl
    · intro us v hR hn ho K hK
      obtain ⟨n25, -⟩ := hn
      have n25 : us 25 = _ := n25
      clear ho
      obtain ⟨r0, r1, r2, r3, r4, r5, r6⟩ := id hR
      rw [if_pos (by rfl)]
      go_simp
      refine hK _ _ _ (by simp only [Act.put, List.setIfInBounds_toArray, List.set_cons_zero, List.set_cons_succ, Nat.reduceAdd, n25] <;> rfl) ?_ hR ⟨fun h => h, trivial⟩
      refine only_mk (v := v) ?_
      with_reducible rfl
    · intro us v hR hn ho K hK
      obtain ⟨n24, n26, -⟩ := hn
      have n24 : us 24 = _ := n24
      have n26 : us 26 = _ := n26
      clear ho
      obtain ⟨r0, r1, r2, r3, r4, r5, r6⟩ := id hR
      have z0 : ¬ (9223372036854775807 < T4.size + b.size) := by omega
      rw [if_pos (by rfl)]
      go_simp
      refine hK _ _ _ (by simp only [Act.put, List.setIfInBounds_toArray, List.set_cons_zero, List.set_cons_succ, Nat.reduceAdd, n24, n26] <;> rfl) ?_ hR trivial
      refine only_mk (v := v) ?_
      rw [HT5.out]
    · intro us v hR hn ho K hK
      obtain ⟨n27, -⟩ := hn
      have n27 : us 27 = _ := n27
      clear ho
      obtain ⟨r0, r1, r2, r3, r4, r5, r6⟩ := id hR
      rw [if_pos (by rfl)]
      go_simp
      refine hK _ _ _ (by simp only [Act.put, List.setIfInBounds_toArray, List.set_cons_zero, List.set_cons_succ, Nat.reduceAdd, n27] <;> rfl) ?_ hR trivial
      refine only_mk (v := v) ?_
      with_reducible rfl
  case hla =>
    intro us v hR hl
    obtain ⟨n0, n1, n2, n4, n5, n6, n7, n8, n9, n10, n11, n12, n13, n14, n15, n16, n17, n18, n19, n20, n21, n22, n23, n24, n25, n26, n27, n28, -⟩ := need_last hl [0, 1, 2, 4, 5, 6, 7, 8, 9, 10, 11, 12, 13, 14, 15, 16, 17, 18, 19, 20, 21, 22, 23, 24, 25, 26, 27, 28] (by kernel_rfl)
    have n0 : us 0 = _ := n0
    have n1 : us 1 = _ := n1
    have n2 : us 2 = _ := n2
    have n4 : us 4 = _ := n4
    have n5 : us 5 = _ := n5
    have n6 : us 6 = _ := n6
    have n7 : us 7 = _ := n7
    have n8 : us 8 = _ := n8
    have n9 : us 9 = _ := n9
    have n10 : us 10 = _ := n10
    have n11 : us 11 = _ := n11
    have n12 : us 12 = _ := n12
    have n13 : us 13 = _ := n13
    have n14 : us 14 = _ := n14
    have n15 : us 15 = _ := n15
    have n16 : us 16 = _ := n16
    have n17 : us 17 = _ := n17
    have n18 : us 18 = _ := n18
    have n19 : us 19 = _ := n19
    have n20 : us 20 = _ := n20
    have n21 : us 21 = _ := n21
    have n22 : us 22 = _ := n22
    have n23 : us 23 = _ := n23
    have n24 : us 24 = _ := n24
    have n25 : us 25 = _ := n25
    have n26 : us 26 = _ := n26
    have n27 : us 27 = _ := n27
    have n28 : us 28 = _ := n28
    obtain ⟨r0, r1, r2, r3, r4, r5, r6⟩ := id hR
    simp only [n0, n1, n2, n4, n5, n6, n7, n8, n9, n10, n11, n12, n13, n14, n15, n16, n17, n18, n19, n20, n21, n22, n23, n24, n25, n26, n27, n28]
    clear hl n0 n1 n2 n4 n5 n6 n7 n8 n9 n10 n11 n12 n13 n14 n15 n16 n17 n18 n19 n20 n21 n22 n23 n24 n25 n26 n27 n28
    go_wp2_with fail
    with_reducible refine (refSum_is T5 _ (by unfold maxLen; omega)).mono ?_
    rintro e v2 ⟨rfl, rfl⟩
    go_wp2_with fail
    obtain ⟨TL, hTL⟩ : ∃ TL : ByteArray, TL = ⟨(Crc.tail (Crc.sum T5.data.toList)).toArray⟩ := ⟨_, rfl⟩
    have HTL := Lib.hid hTL
    have stl : TL.size ≤ 4 := by rw [hTL]; exact Nat.le_refl _
    clear hTL
    with_reducible refine (refTail_is _ _ rfl TL HTL.out _).mono ?_
    rintro e v3 ⟨rfl, hb3⟩
    go_wp2_with fail
    go_ret
    refine ⟨ret_s ?_, r5.trans (hb3.mono r5.size)⟩
    rw [HTL.out, HH.out]
    unfold put
    rw [← ba_append, ← HH.out]
end Go.Proofs.YtffejniibljjeaaDoor.Frame
