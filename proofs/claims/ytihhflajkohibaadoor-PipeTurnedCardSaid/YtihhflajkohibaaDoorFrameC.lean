/- Layer 6: Put hands back a frame's bytes. Conditions: the table of layer 5 lies; numbers without sign. -/
import Derived.Test.YtihhflajkohibaaDoorFrameB
import Derived.Test.YtihhflajkohibaaDoorFrRight
import Derived.Test.YtihhflajkohibaaDoorFlow
namespace Go.Proofs.YtihhflajkohibaaDoor.Frame
set_option linter.unusedSimpArgs false
set_option linter.unusedVariables false
set_option maxRecDepth 100000
open Go.RowKit
open Go.Proofs.YtihhflajkohibaaDoor
open Go.Proofs.YtihhflajkohibaaDoor.Link (Fr right_is right_any frBox bcell)
theorem ret_si {a b : ByteArray} {m : Int} (h : a = b) : Ending.returned (.tuple #[.string a, .int .i64 m]) = .returned (.tuple #[.string b, .int .i64 m]) := by rw [h]
section
set_option maxRecDepth 100000 in
set_option maxHeartbeats 1000000 in
theorem put_no (k ep sq ak : Int) (b : ByteArray) (w : World) (hr : Fr.right ⟨k, ep, sq, ak, b⟩ = false) :
    Calls Tryd.prog 33 #[.agg #[.int .i64 k, .int .i64 ep, .int .u64 sq, .int .u64 ak, .string b]] w fun e w' => e = .returned (.tuple #[.string ⟨#[]⟩, .int .i64 60]) ∧ Below w.heap.size w w' := by
  have HR := Lib.hid hr
  clear hr
  go_enter Tryd.func33, Tryd.ntmps33
  go_wp2_with fail
  refine (right_is ⟨k, ep, sq, ak, b⟩ false HR.out _).mono ?_
  rintro e w1 ⟨rfl, hb⟩
  go_wp2_with fail
  go_ret2
  exact ⟨rfl, ((Below.refl w.heap.size w).alloc (Nat.le_refl _) _).trans (hb.mono (by simp))⟩
set_option maxRecDepth 100000 in
set_option maxHeartbeats 2000000 in
theorem put_yes (k ep sq ak : Nat) (b : ByteArray) (w : World) (hr : Fr.right ⟨(k : Int), (ep : Int), (sq : Int), (ak : Int), b⟩ = true) (ht : TabAt w) :
    Calls Tryd.prog 33 #[.agg #[.int .i64 (k : Int), .int .i64 (ep : Int), .int .u64 (sq : Int), .int .u64 (ak : Int), .string b]] w fun e w' => e = .returned (.tuple #[.string ⟨(put ⟨(k : Int), (ep : Int), (sq : Int), (ak : Int), b⟩).toArray⟩, .int .i64 0]) ∧ Below w.heap.size w w' := by
  obtain ⟨q0, q1, q2, q3⟩ := right_iff.1 hr
  have q1 : ep ≤ 65535 := by simp only at q1; omega
  have q2 : b.size ≤ 64 := q2
  have q4 : k ≤ 2 := by simp only at q3; omega
  have HR := Lib.hid hr
  have hp := ht.pos
  obtain ⟨i0, hi0, hz0, hz1, hz2⟩ := info_parts byteInfo
  clear hr q0 q3
  go_enter Tryd.func33, Tryd.ntmps33
  go_wp2_with fail
  refine (right_is ⟨(k : Int), (ep : Int), (sq : Int), (ak : Int), b⟩ true HR.out _).mono ?_
  rintro e w1 ⟨rfl, hb⟩
  obtain ⟨hcc, _⟩ := bcell hb
  have c0 := hcc w.heap.size 0 (by simp)
  have c1 := hcc w.heap.size 1 (by simp)
  have c2 := hcc w.heap.size 2 (by simp)
  have c3 := hcc w.heap.size 3 (by simp)
  have c4 := hcc w.heap.size 4 (by simp)
  simp at c0 c1 c2 c3 c4
  have hsz : w.heap.size < w1.heap.size := by have := hb.size; simp at this; omega
  clear hcc
  go_wp2_with fail
  have hv0 : Vec (w1.alloc (.cells #[.int .u8 78, .int .u8 1, .int .u8 (k : Int)] 5)) [w1.heap.size] 1 (some ⟨w1.heap.size, 0, none⟩) 3 3 (([78, 1, Crc.b8 k] : List UInt8).map bv) := by
    have h0 := Vec.of_new (w := w1.alloc (.cells #[.int .u8 78, .int .u8 1, .int .u8 (k : Int)] 5)) (e := 5) (g := w1.heap.size) #[.int .u8 78, .int .u8 1, .int .u8 (k : Int)] 1 3 3 (by omega) (by decide) rfl (heap_alloc_new w1 _)
    have e : (([78, 1, Crc.b8 k] : List UInt8).map bv) = #[Value.int .u8 78, .int .u8 1, .int .u8 (k : Int)].toList.take (3 * 1) := by
      have e2 : bv (Crc.b8 k) = .int .u8 (k : Int) := by unfold bv; rw [b8_toNat, Nat.mod_eq_of_lt (by omega)]
      simp only [List.map_cons, List.map_nil, e2]; rfl
    rw [e]; exact h0
  have ha0 : Below w1.heap.size w1 (w1.alloc (.cells #[.int .u8 78, .int .u8 1, .int .u8 (k : Int)] 5)) := (Below.refl _ _).alloc (Nat.le_refl _) _
  generalize hw0 : w1.alloc (.cells #[.int .u8 78, .int .u8 1, .int .u8 (k : Int)] 5) = w2 at *
  clear hw0
  have b2 := (ha0.cell (p := ⟨w.heap.size, 2, none⟩) hsz).trans c2
  have b3 := (ha0.cell (p := ⟨w.heap.size, 3, none⟩) hsz).trans c3
  have b4 := (ha0.cell (p := ⟨w.heap.size, 4, none⟩) hsz).trans c4
  have hx2 : w.heap.size < w2.heap.size := Nat.lt_of_lt_of_le hsz ha0.size
  obtain ⟨L0, hL0⟩ : ∃ L0 : List UInt8, L0 = [78, 1, Crc.b8 k] := ⟨_, rfl⟩
  have hl0 : L0.length = 3 := by rw [hL0]; rfl
  rw [← hL0] at hv0
  have HL0 := Lib.hid hL0
  have Hl0 := Lib.hid hl0
  clear hL0 hl0
  refine (number_is hv0 Hl0.out ep 2 (by omega) (by omega) _ _ rfl rfl).mono ?_
  rintro e w3 ⟨F1, A1, c1', rfl, hv1, ht1⟩
  have hXF : w.heap.size ∉ [w1.heap.size] := by simp; omega
  have hXF1 : w.heap.size ∉ F1 := ht1.apart hx2 hXF
  have d2 := (ht1.kept.cell (p := ⟨w.heap.size, 2, none⟩) hx2 hXF).trans b2
  have d3 := (ht1.kept.cell (p := ⟨w.heap.size, 3, none⟩) hx2 hXF).trans b3
  have d4 := (ht1.kept.cell (p := ⟨w.heap.size, 4, none⟩) hx2 hXF).trans b4
  have hx3 : w.heap.size < w3.heap.size := Nat.lt_of_lt_of_le hx2 ht1.kept.size
  obtain ⟨L1, hL1⟩ : ∃ L1 : List UInt8, L1 = L0 ++ hi ep 2 := ⟨_, rfl⟩
  rw [← hL1] at hv1
  have HL1 := Lib.hid hL1
  have Hl1 := Lib.hid (show L1.length = 5 by rw [hL1, List.length_append, Hl0.out, hi_length])
  obtain ⟨L2, hL2⟩ : ∃ L2 : List UInt8, L2 = L1 ++ hi sq 8 := ⟨_, rfl⟩
  have HL2 := Lib.hid hL2
  have Hl2 := Lib.hid (show L2.length = 13 by rw [hL2, List.length_append, Hl1.out, hi_length])
  have HV1 := Lib.hid hv1.drew
  have HT1 := Lib.hid ht1
  clear c0 c1 c2 c3 c4 b2 b3 b4 hv0 hL1 hL2 hv1 ht1
  go_wp2_with fail
  go_region_held3 (fun w' => w'.cell? ⟨w.heap.size, 2, none⟩ = some (.int .u64 (sq : Int)) ∧ w'.cell? ⟨w.heap.size, 3, none⟩ = some (.int .u64 (ak : Int)) ∧ w'.cell? ⟨w.heap.size, 4, none⟩ = some (.string b)) (first | exact ⟨d2, d3, d4⟩ | exact ⟨e2, e3, e4⟩ | exact ⟨f2, f3, f4⟩) ((go_at_call 48; first | ((with_reducible refine (number_is HV1.out Hl1.out sq 8 (by omega) (by omega) (sq : Int) 8 rfl rfl).mono ?_); rintro e w4 ⟨F2, A2, c2', rfl, hv2, ht2⟩; rw [← HL2.out] at hv2; have HV2 := Lib.hid hv2; have hXF2 := ht2.apart hx3 hXF1; have hx4 := Nat.lt_of_lt_of_le hx3 ht2.kept.size; have e2 := (ht2.kept.cell (p := ⟨w.heap.size, 2, none⟩) hx3 hXF1).trans d2; have e3 := (ht2.kept.cell (p := ⟨w.heap.size, 3, none⟩) hx3 hXF1).trans d3; have e4 := (ht2.kept.cell (p := ⟨w.heap.size, 4, none⟩) hx3 hXF1).trans d4; clear hv2) | ((refine (number_is HV2.out Hl2.out ak 8 (by omega) (by omega) (ak : Int) 8 rfl rfl).mono ?_); rintro e w5 ⟨F3, A3, c3', rfl, hv3, ht3⟩; have hXF3 := ht3.apart hx4 hXF2; have hx5 := Nat.lt_of_lt_of_le hx4 ht3.kept.size; have f2 := (ht3.kept.cell (p := ⟨w.heap.size, 2, none⟩) hx4 hXF2).trans e2; have f3 := (ht3.kept.cell (p := ⟨w.heap.size, 3, none⟩) hx4 hXF2).trans e3; have f4 := (ht3.kept.cell (p := ⟨w.heap.size, 4, none⟩) hx4 hXF2).trans e4)))
  obtain ⟨L3, hL3⟩ : ∃ L3 : List UInt8, L3 = L2 ++ hi ak 8 := ⟨_, rfl⟩
  rw [← hL3] at hv3
  have HL3 := Lib.hid hL3
  have Hl3 := Lib.hid (show L3.length = 21 by rw [hL3, List.length_append, Hl2.out, hi_length])
  obtain ⟨L4, hL4⟩ : ∃ L4 : List UInt8, L4 = L3 ++ hi b.size 2 := ⟨_, rfl⟩
  have HL4 := Lib.hid hL4
  have Hl4 := Lib.hid (show L4.length = 23 by rw [hL4, List.length_append, Hl3.out, hi_length])
  have HV3 := Lib.hid hv3.drew
  have HT3 := Lib.hid (HT1.out.trans ((show Turns F1 F2 w3 w4 from ⟨ht2.kept.drewR, ht2.new⟩).trans ht3))
  clear hL3 hL4 hv3
  go_wp2_with fail
  have hwb : IntKind.u64.wrap (b.size : Int) = (b.size : Int) := IntWalk.u64_in _ (by omega)
  refine' wp_flow [only 0 _, only 1 _, only 2 _, only 3 _, only 4 _, own 5 (fun x v => ∃ F4 A4 c4, x = .slice A4 23 c4 ∧ Vec v F4 1 A4 23 c4 (L4.map bv) ∧ Turns F3 F4 w5 v), only 6 _, only 7 _, own 8 (fun x v => ∃ F5 A5 c5, x = .slice A5 (23 + b.size) c5 ∧ Vec v F5 1 A5 (23 + b.size) c5 (L4.map bv ++ byteCells b) ∧ Turns F3 F5 w5 v), own 9 (fun x v => ∃ F5 A5 c5, x = .slice A5 (23 + b.size) c5 ∧ Vec v F5 1 A5 (23 + b.size) c5 (L4.map bv ++ byteCells b) ∧ Turns F3 F5 w5 v), (fun _ v => Vec v F3 1 A3 21 c3' (L3.map bv) ∧ Turns F3 F3 w5 v)] (fun v => v.cell? ⟨w.heap.size, 4, none⟩ = some (.string b)) [[], [], [1], [2], [3], [0, 4, 10], [], [6], [5, 7], [8]] [[], [], [], [], [], [10], [], [], [5], []] [[9], [], [], [], [], [], [], [], [], []] [[10], [10], [10], [10], [10], [], [5, 10], [5, 10], [], [8]] [5, 8, 9, 10] [0, 0, 2, 6, 14, 31, 0, 64, 255, 511] _ (fun us => ?hfr) (by kernel_rfl) (by kernel_rfl) (by kernel_rfl) ⟨only_still _, only_still _, only_still _, only_still _, only_still _, trivial, only_still _, only_still _, trivial, trivial, trivial, trivial⟩ (f4) (by simp) (⟨HV3.out, (Turns.refl F3 w5).drewN 1⟩) ?hst ?hla
  case hfr => (simp only [List.cons_append, List.nil_append, putAll, Act.put, List.setIfInBounds_toArray, List.set_cons_zero, List.set_cons_succ, Nat.reduceAdd]; rfl)
  case hst =>
    refine ⟨?_, ?_, ?_, ?_, ?_, ?_, ?_, ?_, ?_, ?_, trivial⟩
    · intro us v hR hn ho K hK
      obtain ⟨o9, -⟩ := ho
      have n9 : us 9 = .slice A3 21 c3' := o9
      clear o9
      rw [if_pos (by rfl)]
      go_simp
      refine hK _ _ _ (by simp only [Act.put, List.setIfInBounds_toArray, List.set_cons_zero, List.set_cons_succ, Nat.reduceAdd, n9] <;> rfl) ?_ hR ⟨fun h => h, trivial⟩
      refine only_mk (v := v) ?_
      with_reducible rfl
    · intro us v hR hn ho K hK
      clear ho
      rw [if_pos (by rfl)]
      go_simp
      refine hK _ _ _ (by simp only [Act.put, List.setIfInBounds_toArray, List.set_cons_zero, List.set_cons_succ, Nat.reduceAdd] <;> rfl) ?_ hR ⟨fun h => h, trivial⟩
      refine only_mk (v := v) ?_
      with_reducible rfl
    · intro us v hR hn ho K hK
      obtain ⟨n1, -⟩ := hn
      have n1 : us 1 = _ := n1
      clear ho
      rw [if_pos (by rfl)]
      go_simp
      refine hK _ _ _ (by simp only [Act.put, List.setIfInBounds_toArray, List.set_cons_zero, List.set_cons_succ, Nat.reduceAdd, n1] <;> rfl) ?_ hR ⟨fun h => h, trivial⟩
      refine only_mk (v := v) ?_
      with_reducible rfl
    · intro us v hR hn ho K hK
      obtain ⟨n2, -⟩ := hn
      have n2 : us 2 = _ := n2
      clear ho
      rw [if_pos (by rfl)]
      go_simp
      refine hK _ _ _ (by simp only [Act.put, List.setIfInBounds_toArray, List.set_cons_zero, List.set_cons_succ, Nat.reduceAdd, n2] <;> rfl) ?_ hR ⟨fun h => h, trivial⟩
      refine only_mk (v := v) ?_
      with_reducible rfl
    · intro us v hR hn ho K hK
      obtain ⟨n3, -⟩ := hn
      have n3 : us 3 = _ := n3
      clear ho
      rw [if_pos (by rfl)]
      go_simp
      refine hK _ _ _ (by simp only [Act.put, List.setIfInBounds_toArray, List.set_cons_zero, List.set_cons_succ, Nat.reduceAdd, n3] <;> rfl) ?_ hR ⟨fun h => h, trivial⟩
      refine only_mk (v := v) ?_
      with_reducible rfl
    · intro us v hR hn ho K hK
      obtain ⟨n0, n4, ns, -⟩ := hn
      have n0 : us 0 = _ := n0
      have n4 : us 4 = _ := n4
      clear ho
      obtain ⟨ks1, ks2⟩ := ns
      rw [if_pos (by rfl)]
      go_simp
      with_reducible refine (number_is ks1 Hl3.out b.size 2 (by omega) (by omega) (b.size : Int) 2 rfl rfl).mono ?_
      rintro e v' ⟨F4, A4, c4', rfl, hv4, ht4⟩
      dsimp only
      refine hK _ _ _ (by simp only [Act.put, List.setIfInBounds_toArray, List.set_cons_zero, List.set_cons_succ, Nat.reduceAdd, n0, n4] <;> rfl) ⟨F4, A4, c4', rfl, by rw [HL4.out]; exact hv4, ks2.trans ht4⟩ ((ht4.kept.cell (p := ⟨w.heap.size, 4, none⟩) (Nat.lt_of_lt_of_le hx5 ks2.kept.size) hXF3).trans hR) trivial
    · intro us v hR hn ho K hK
      clear ho
      rw [if_pos (by rfl)]
      go_simp
      refine hK _ _ _ (by simp only [Act.put, List.setIfInBounds_toArray, List.set_cons_zero, List.set_cons_succ, Nat.reduceAdd] <;> rfl) ?_ hR ⟨fun h => h, fun h => h, trivial⟩
      refine only_mk (v := v) ?_
      with_reducible rfl
    · intro us v hR hn ho K hK
      obtain ⟨n6, -⟩ := hn
      have n6 : us 6 = _ := n6
      clear ho
      rw [if_pos (by rfl)]
      go_simp
      refine hK _ _ _ (by simp only [Act.put, List.setIfInBounds_toArray, List.set_cons_zero, List.set_cons_succ, Nat.reduceAdd, n6] <;> rfl) ?_ hR ⟨fun h => h, fun h => h, trivial⟩
      refine only_mk (v := v) ?_
      with_reducible rfl
    · intro us v hR hn ho K hK
      obtain ⟨n5, n7, -⟩ := hn
      have n7 : us 7 = _ := n7
      clear ho
      obtain ⟨F4, A4, c4', n5, hv4, ht4⟩ := n5
      refine step_append_vec _ (by rfl) (.tmp 29) (.tmp 31) 90 9 (by rfl) 5 i0 _ 1 1 Tryd.underlying90 hi0 hz0 hz1 hz2 rfl F4 A4 23 c4' _ (.string b) b.size (byteCells b) n5 n7 hv4 (Src.ofString _ Tryd.underlying9 b) (by unfold maxLen; omega) (by omega) ?_
      intro v7 w7 hap7
      obtain ⟨F5, A5, c5', rfl, hv5, ht5⟩ := hap7.all
      refine hK _ _ _ (by simp only [Act.put, List.setIfInBounds_toArray, List.set_cons_zero, List.set_cons_succ, Nat.reduceAdd, n7] <;> rfl) ⟨F5, A5, c5', rfl, hv5, ht4.trans ht5⟩ ((ht5.kept.cell (p := ⟨w.heap.size, 4, none⟩) (Nat.lt_of_lt_of_le hx5 ht4.kept.size) (ht4.apart hx5 hXF3)).trans hR) trivial
    · intro us v hR hn ho K hK
      obtain ⟨n8, -⟩ := hn
      clear ho
      obtain ⟨F5, A5, c5, e8, k8, t8⟩ := n8
      rw [if_pos (by rfl)]
      go_simp
      refine hK _ _ _ (by simp only [Act.put, List.setIfInBounds_toArray, List.set_cons_zero, List.set_cons_succ, Nat.reduceAdd, e8] <;> rfl) ⟨F5, A5, c5, rfl, k8, t8⟩ hR ⟨fun h => h, trivial⟩
  case hla =>
    intro us v hR hl
    obtain ⟨n0, n1, n2, n3, n4, n6, n7, n8, n9, -⟩ := need_last hl [0, 1, 2, 3, 4, 6, 7, 8, 9] (by kernel_rfl)
    have n0 : us 0 = _ := n0
    have n1 : us 1 = _ := n1
    have n2 : us 2 = _ := n2
    have n3 : us 3 = _ := n3
    have n4 : us 4 = _ := n4
    have n6 : us 6 = _ := n6
    have n7 : us 7 = _ := n7
    simp only [n0, n1, n2, n3, n4, n6, n7]
    clear hl n0 n1 n2 n3 n4 n6 n7
    obtain ⟨F5, A5, c5, e9, hv5, ht5⟩ := n9
    obtain ⟨_, _, _, e8, _⟩ := n8
    simp only [e8, e9]
    clear n2 n3 n4
    clear n0 hwb
    obtain ⟨L5, hL5⟩ : ∃ L5 : List UInt8, L5 = L4 ++ b.data.toList := ⟨_, rfl⟩
    have e5 : L4.map bv ++ byteCells b = L5.map bv := by rw [hL5, List.map_append]; rfl
    rw [e5] at hv5
    have hl5 : L5.length = 23 + b.size := by rw [hL5, List.length_append, Hl4.out]; simp
    have hb2 : Below w.heap.size w w2 := (((Below.refl w.heap.size w).alloc (Nat.le_refl _) _).trans (hb.mono (by simp))).trans (ha0.mono (Nat.le_of_lt hsz))
    have ht2' := (HT3.out.trans ht5).below (B := w.heap.size) (Nat.le_of_lt hx2) (by simp; omega)
    have hbv : Below w.heap.size w v := hb2.trans ht2'.1
    obtain ⟨n, hn⟩ : ∃ n, n = 23 + b.size := ⟨_, rfl⟩
    rw [← hn] at hv5
    simp only [← hn]
    have hn0 : 0 < n := by omega
    have hn1 : n ≤ 87 := by omega
    have hsz5 : (⟨L5.toArray⟩ : ByteArray).size = n := by rw [hn, ← hl5]; rfl
    have HL5 := Lib.hid hL5
    have HS5 := Lib.hid hsz5
    have hlen : (⟨L5.toArray⟩ : ByteArray).size + (Crc.tail (Crc.sum L5)).length ≤ 100 := by rw [hsz5, Crc.tail_length]; omega
    have hl6 : L5.length + (Crc.tail (Crc.sum L5)).length ≤ 100 := by rw [hl5, Crc.tail_length]; omega
    have hle : (⟨L5.toArray⟩ : ByteArray).size ≤ 100 := by omega
    have HV5 := Lib.hid (show TabAt v.drew ∧ Vec v.drew F5 1 A5 n c5 (L5.map bv) ∧ Below w.heap.size w v.drew from ⟨ht.below (below_drewN hbv 1) hp, hv5.drew, below_drewN hbv 1⟩)
    clear e5 hl5 hn hL5 hsz5 e9 e8
    go_wp2_with fail
    refine' wp_flow [only 0 _, only 1 _, only 2 _, only 3 _, only 4 (.int .u32 (val (Crc.sum L5))), only 5 (.string ⟨(Crc.tail (Crc.sum L5)).toArray⟩), only 6 _, only 7 _, only 8 _] (fun v => TabAt v ∧ Vec v F5 1 A5 n c5 (L5.map bv) ∧ Below w.heap.size w v) [[], [0], [], [2], [3], [4], [1, 5], [6], []] [[], [], [], [], [], [], [], [], []] [[], [], [], [], [], [], [], [], []] [[], [], [], [], [], [], [], [], []] [] [0, 1, 0, 4, 12, 28, 63, 127, 127] _ (fun us => ?hfr) (by kernel_rfl) (by kernel_rfl) (by kernel_rfl) ⟨only_still _, only_still _, only_still _, only_still _, only_still _, only_still _, only_still _, only_still _, only_still _, trivial⟩ (HV5.out) (by simp) (trivial) ?hst ?hla
    case hfr => (simp only [List.cons_append, List.nil_append, putAll, Act.put, List.setIfInBounds_toArray, List.set_cons_zero, List.set_cons_succ, Nat.reduceAdd]; rfl)
    case hst =>
      refine ⟨?_, ?_, ?_, ?_, ?_, ?_, ?_, ?_, ?_, trivial⟩
      · intro us v hR hn ho K hK
        clear ho
        obtain ⟨r1, r2, r3⟩ := id hR
        rw [if_pos (by rfl)]
        go_simp
        refine hK _ _ _ (by simp only [Act.put, List.setIfInBounds_toArray, List.set_cons_zero, List.set_cons_succ, Nat.reduceAdd] <;> rfl) ?_ hR trivial
        refine only_mk (v := v) ?_
        with_reducible rfl
      · intro us v hR hn ho K hK
        obtain ⟨n0, -⟩ := hn
        have n0 : us 0 = _ := n0
        clear ho
        obtain ⟨r1, r2, r3⟩ := id hR
        have hcv := conv_vec r2 hn0
        rw [if_pos (by rfl)]
        go_simp
        refine hK _ _ _ (by simp only [Act.put, List.setIfInBounds_toArray, List.set_cons_zero, List.set_cons_succ, Nat.reduceAdd, n0] <;> rfl) ?_ hR trivial
        refine only_mk (v := v) ?_
        with_reducible rfl
      · intro us v hR hn ho K hK
        clear ho
        obtain ⟨r1, r2, r3⟩ := id hR
        rw [if_pos (by rfl)]
        go_simp
        refine hK _ _ _ (by simp only [Act.put, List.setIfInBounds_toArray, List.set_cons_zero, List.set_cons_succ, Nat.reduceAdd] <;> rfl) ?_ hR trivial
        refine only_mk (v := v) ?_
        with_reducible rfl
      · intro us v hR hn ho K hK
        obtain ⟨n2, -⟩ := hn
        have n2 : us 2 = _ := n2
        clear ho
        obtain ⟨r1, r2, r3⟩ := id hR
        have hcv := conv_vec r2 hn0
        rw [if_pos (by rfl)]
        go_simp
        refine hK _ _ _ (by simp only [Act.put, List.setIfInBounds_toArray, List.set_cons_zero, List.set_cons_succ, Nat.reduceAdd, n2] <;> rfl) ?_ hR trivial
        refine only_mk (v := v) ?_
        with_reducible rfl
      · intro us v hR hn ho K hK
        obtain ⟨n3, -⟩ := hn
        have n3 : us 3 = _ := n3
        clear ho
        obtain ⟨r1, r2, r3⟩ := id hR
        rw [if_pos (by rfl)]
        go_simp
        with_reducible refine (sum_any _ _ (by unfold maxLen; omega) r1).mono ?_
        rintro e v' ⟨rfl, rfl⟩
        dsimp only
        exact hK _ _ _ (by simp only [Act.put, List.setIfInBounds_toArray, List.set_cons_zero, List.set_cons_succ, Nat.reduceAdd, n3] <;> rfl) rfl hR trivial
      · intro us v hR hn ho K hK
        obtain ⟨n4, -⟩ := hn
        have n4 : us 4 = _ := n4
        clear ho
        obtain ⟨r1, r2, r3⟩ := id hR
        rw [if_pos (by rfl)]
        go_simp
        with_reducible refine (tail_any _ _).mono ?_
        rintro e v' ⟨rfl, hbt⟩
        dsimp only
        exact hK _ _ _ (by simp only [Act.put, List.setIfInBounds_toArray, List.set_cons_zero, List.set_cons_succ, Nat.reduceAdd, n4] <;> rfl) rfl ⟨r1.below hbt r1.pos, r2.after hbt, r3.trans (hbt.mono r3.size)⟩ trivial
      · intro us v hR hn ho K hK
        obtain ⟨n1, n5, -⟩ := hn
        have n1 : us 1 = _ := n1
        have n5 : us 5 = _ := n5
        clear ho
        obtain ⟨r1, r2, r3⟩ := id hR
        have hl7 : ¬ (9223372036854775807 < L5.length + (Crc.tail (Crc.sum L5)).length) := by omega
        rw [if_pos (by rfl)]
        go_simp
        refine hK _ _ _ (by simp only [Act.put, List.setIfInBounds_toArray, List.set_cons_zero, List.set_cons_succ, Nat.reduceAdd, n1, n5] <;> rfl) ?_ hR trivial
        refine only_mk (v := v) ?_
        with_reducible rfl
      · intro us v hR hn ho K hK
        obtain ⟨n6, -⟩ := hn
        have n6 : us 6 = _ := n6
        clear ho
        obtain ⟨r1, r2, r3⟩ := id hR
        rw [if_pos (by rfl)]
        go_simp
        refine hK _ _ _ (by simp only [Act.put, List.setIfInBounds_toArray, List.set_cons_zero, List.set_cons_succ, Nat.reduceAdd, n6] <;> rfl) ?_ hR trivial
        refine only_mk (v := v) ?_
        with_reducible rfl
      · intro us v hR hn ho K hK
        clear ho
        obtain ⟨r1, r2, r3⟩ := id hR
        rw [if_pos (by rfl)]
        go_simp
        refine hK _ _ _ (by simp only [Act.put, List.setIfInBounds_toArray, List.set_cons_zero, List.set_cons_succ, Nat.reduceAdd] <;> rfl) ?_ hR trivial
        refine only_mk (v := v) ?_
        with_reducible rfl
    case hla =>
      intro us v hR hl
      obtain ⟨n0, n1, n2, n3, n4, n5, n6, n7, n8, -⟩ := need_last hl [0, 1, 2, 3, 4, 5, 6, 7, 8] (by kernel_rfl)
      have n0 : us 0 = _ := n0
      have n1 : us 1 = _ := n1
      have n2 : us 2 = _ := n2
      have n3 : us 3 = _ := n3
      have n4 : us 4 = _ := n4
      have n5 : us 5 = _ := n5
      have n6 : us 6 = _ := n6
      have n7 : us 7 = _ := n7
      have n8 : us 8 = _ := n8
      obtain ⟨r1, r2, r3⟩ := id hR
      simp only [n0, n1, n2, n3, n4, n5, n6, n7, n8]
      clear hl n0 n1 n2 n3 n4 n5 n6 n7 n8
      go_wp2_with fail
      go_ret2
      have e : (⟨L5.toArray⟩ : ByteArray) ++ ⟨(Crc.tail (Crc.sum L5)).toArray⟩ = ⟨(put ⟨(k : Int), (ep : Int), (sq : Int), (ak : Int), b⟩).toArray⟩ := by
        have h5 : L5 = head ⟨(k : Int), (ep : Int), (sq : Int), (ak : Int), b⟩ := by
          rw [HL5.out, HL4.out, HL3.out, HL2.out, HL1.out, HL0.out]; simp [head]
        unfold put
        rw [← h5]
        apply ByteArray.ext; simp
      exact ⟨ret_si e, r3⟩
end
end Go.Proofs.YtihhflajkohibaaDoor.Frame
