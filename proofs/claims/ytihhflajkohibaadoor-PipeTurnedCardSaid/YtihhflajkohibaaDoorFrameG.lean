/- Layer 6: get, behind the length: the sum, the kind, and the frame. Conditions: the table of layer 5 lies. -/
import Derived.Test.YtihhflajkohibaaDoorFrameF
namespace Go.Proofs.YtihhflajkohibaaDoor.Frame
set_option linter.unusedSimpArgs false
set_option linter.unusedVariables false
set_option maxRecDepth 100000
open Go.RowKit
open Go.Proofs.YtihhflajkohibaaDoor
open Go.Proofs.YtihhflajkohibaaDoor.Link (Fr right_is right_any frBox bcell ret_bool empty_size)
theorem len_eq {x m : Nat} (h : x = m) : (((x : Nat) : Int) != (m : Int)) = false := by subst h; simp
theorem good_no (s : ByteArray) (w : World) (hs : s.size ≤ maxLen) (ht : TabAt w) (hg : Crc.isGood s.data.toList = false) : Calls Tryd.prog 57 #[.string s] w fun e w' => e = .returned (.tuple #[.string ⟨#[]⟩, .bool false]) ∧ Below w.heap.size w w' := by
  have h := good_any s w hs ht
  rw [Crc.good_not _ hg, hg] at h; exact h
theorem good_yes (s G : ByteArray) (w : World) (hs : s.size ≤ maxLen) (ht : TabAt w) (hg : Crc.isGood s.data.toList = true) (hG : G = ⟨(Crc.good s.data.toList).toArray⟩) : Calls Tryd.prog 57 #[.string s] w fun e w' => e = .returned (.tuple #[.string G, .bool true]) ∧ Below w.heap.size w w' := by
  have h := good_any s w hs ht
  rw [hg] at h; subst hG; exact h
theorem stored_far {v : World} {X g : Nat} (h : X ≠ g) (a b c d e : Value) : (((((v.setCell ⟨g, 0, none⟩ a).setCell ⟨g, 1, none⟩ b).setCell ⟨g, 2, none⟩ c).setCell ⟨g, 3, none⟩ d).setCell ⟨g, 4, none⟩ e).heap[X]? = v.heap[X]? := by
  rw [set_other (p := ⟨g, 4, none⟩) h, set_other (p := ⟨g, 3, none⟩) h, set_other (p := ⟨g, 2, none⟩) h, set_other (p := ⟨g, 1, none⟩) h, set_other (p := ⟨g, 0, none⟩) h]
section
variable {s : ByteArray} {w : World} {m a : Nat}
set_option maxRecDepth 100000 in
set_option maxHeartbeats 1000000 in
theorem get_sum (hm : s.size = m + 27) (ha : a = m + 4) (hs : s.size ≤ maxLen) (ht : TabAt w) (h0 : s.data.toList.getD 0 0 = 78) (h1 : s.data.toList.getD 1 0 = 1) (h2 : num (sub s.data.toList 21 2) = m) (h3 : Crc.isGood s.data.toList = false) : Calls Tryd.prog 42 #[.string s] w (Bad w (s.size - 4) 65) := by
  have hs' := hs
  unfold maxLen at hs
  have he1 : (s.size : Int) - 23 = (a : Int) := by omega
  have he2 : (a : Int) - 4 = (m : Int) := by omega
  have b1 : 27 ≤ s.size := by omega
  have p0 : 0 < s.size := by omega
  have p1 : 1 < s.size := by omega
  have p2 : 2 < s.size := by omega
  have p2' : (2 : Int) < (s.size : Int) := by omega
  have dm : decide ((m : Int) < 0) = false := by simp
  have hwm : IntKind.u64.wrap (m : Int) = (m : Int) := by rw [IntKind.wrap_u64]; omega
  rw [byte_at s 0 p0] at h0
  rw [byte_at s 1 p1] at h1
  have d0 := byte_eq' (n := 78) rfl h0
  have d1 := byte_eq' (n := 1) rfl h1
  obtain ⟨N, hN⟩ : ∃ N, N = numI (sub s.data.toList 21 2) := ⟨_, rfl⟩
  have d2 : (N != (m : Int)) = false := by rw [hN]; exact len_eq h2
  have HN := Lib.hid hN
  have hal : Below w.heap.size w (w.alloc (.cells zeros 57)) := (Below.refl _ _).alloc (Nat.le_refl _) _
  have HAL := Lib.hid hal
  obtain ⟨c, hc⟩ : ∃ c : Nat, c = s.size - 4 := ⟨_, rfl⟩
  have he3 : 23 + (m : Int) = (c : Int) := by omega
  rw [← hc]
  clear hm ha h0 h1 hN h2 hal hc
  go_enter Tryd.func42, Tryd.ntmps42
  go_wp2_with fail
  with_reducible refine (read_is s 21 2 _ hs' (by omega) (by omega) 21 2 N rfl rfl HN.out).mono ?_
  rintro e v ⟨rfl, hb⟩
  have hbw : Below w.heap.size w v := HAL.out.trans (hb.mono (by simp))
  have hX0 : v.heap[w.heap.size]? = some (.cells zeros 57 (0, 0)) := (hb.block w.heap.size (by simp)).trans (heap_alloc_new w _)
  have htv : TabAt v := ht.below hbw ht.pos
  go_wp2_with fail
  with_reducible refine (good_no s _ hs' htv h3).mono ?_
  rintro e v2 ⟨rfl, hb2⟩
  have hX : v2.heap[w.heap.size]? = some (.cells zeros 57 (0, 0)) := (hb2.block _ (lt_of_block hX0)).trans hX0
  have x0 := cell_of_block hX 0
  have x1 := cell_of_block hX 1
  have x2 := cell_of_block hX 2
  have x3 := cell_of_block hX 3
  have x4 := cell_of_block hX 4
  simp [zeros] at x0 x1 x2 x3 x4
  have y0 := frozen_of_block hX 0
  have y1 := frozen_of_block hX 1
  have y2 := frozen_of_block hX 2
  have y3 := frozen_of_block hX 3
  have y4 := frozen_of_block hX 4
  have hlt := lt_of_block hX
  have hsz : w.heap.size ≤ v2.heap.size := Nat.le_of_lt hlt
  go_wp2_with fail
  refine get_end _ _ w.heap.size rfl rfl (stored5 hX _ _ _ _ _ _) ⟨v2.heap.size, rfl, ?_, hsz, (hbw.trans (hb2.mono hbw.size)).trans (stored_below (Nat.le_refl _) hsz _ _ _ _ _ _)⟩
  exact fault_stored _ _ _ _ _ _ _ _ _
set_option maxRecDepth 100000 in
set_option maxHeartbeats 4000000 in
theorem get_parts (hm : s.size = m + 27) (ha : a = m + 4) (hs : s.size ≤ maxLen) (ht : TabAt w) (h0 : s.data.toList.getD 0 0 = 78) (h1 : s.data.toList.getD 1 0 = 1) (h2 : num (sub s.data.toList 21 2) = m) (h3 : Crc.isGood s.data.toList = true) :
    Calls Tryd.prog 42 #[.string s] w fun e w' => ((parts s.data.toList).right = true → e = .returned (.tuple #[Link.Fr.val (parts s.data.toList), .nilIface]) ∧ Below w.heap.size w w') ∧ ((parts s.data.toList).right = false → Bad w 2 66 e w') := by
  have hs' := hs
  unfold maxLen at hs
  have he1 : (s.size : Int) - 23 = (a : Int) := by omega
  have he2 : (a : Int) - 4 = (m : Int) := by omega
  have b1 : 27 ≤ s.size := by omega
  have p0 : 0 < s.size := by omega
  have p1 : 1 < s.size := by omega
  have p2 : 2 < s.size := by omega
  have p2' : (2 : Int) < (s.size : Int) := by omega
  have dm : decide ((m : Int) < 0) = false := by simp
  have hwm : IntKind.u64.wrap (m : Int) = (m : Int) := by rw [IntKind.wrap_u64]; omega
  rw [byte_at s 0 p0] at h0
  rw [byte_at s 1 p1] at h1
  have d0 := byte_eq' (n := 78) rfl h0
  have d1 := byte_eq' (n := 1) rfl h1
  obtain ⟨N, hN⟩ : ∃ N, N = numI (sub s.data.toList 21 2) := ⟨_, rfl⟩
  have d2 : (N != (m : Int)) = false := by rw [hN]; exact len_eq h2
  have HN := Lib.hid hN
  have hal : Below w.heap.size w (w.alloc (.cells zeros 57)) := (Below.refl _ _).alloc (Nat.le_refl _) _
  have HAL := Lib.hid hal
  obtain ⟨G, hG⟩ : ∃ G : ByteArray, G = ⟨(Crc.good s.data.toList).toArray⟩ := ⟨_, rfl⟩
  obtain ⟨E3, hE3⟩ : ∃ E, E = numI (sub s.data.toList 3 2) := ⟨_, rfl⟩
  obtain ⟨E5, hE5⟩ : ∃ E, E = numI (sub s.data.toList 5 8) := ⟨_, rfl⟩
  obtain ⟨E13, hE13⟩ : ∃ E, E = numI (sub s.data.toList 13 8) := ⟨_, rfl⟩
  have hlen : s.data.toList.length = s.size := by simp
  have hg : Crc.good s.data.toList = s.data.toList.take (s.data.toList.length - 4) := by unfold Crc.good; rw [if_pos h3]
  have hGs : G.size = m + 23 := by
    rw [hG, ba_size, hg, List.length_take, hlen]; omega
  obtain ⟨B, hB⟩ : ∃ B : ByteArray, B = G.extract 23 G.size := ⟨_, rfl⟩
  have hsl : ∀ w, (Instr.slice 9 (.string G) (some (.int .i64 23)) Option.none Option.none).run Tryd.prog w = .ok (.string B) w := fun w => by
    rw [run_slice_string_from_if w 9 G .i64 23 Tryd.underlying9, if_pos ⟨by omega, by omega⟩, hB]; rfl
  have hBl : B = ⟨(sub s.data.toList 23 (s.data.toList.length - 27)).toArray⟩ := by
    rw [hB, hG]
    apply ByteArray.ext
    have e : ∀ l : List UInt8, (⟨l.toArray⟩ : ByteArray).extract 23 (⟨l.toArray⟩ : ByteArray).size = ⟨((l.drop 23).take (l.length - 23)).toArray⟩ := fun l => ByteArray.extract_mk l 23 _
    rw [e, hg]
    simp only
    congr 1
    unfold sub
    rw [List.length_take, List.drop_take, List.take_take, hlen]
    congr 1
    omega
  have hw3 : IntKind.i64.wrap E3 = E3 := by
    have h1 := num_lt (sub s.data.toList 3 2)
    rw [sub_length _ _ _ (by omega)] at h1
    refine IntWalk.i64_in _ ?_
    rw [hE3]; unfold numI
    omega
  have hw2 : IntKind.i64.wrap (s[2].toNat : Int) = (s[2].toNat : Int) := IntWalk.i64_in _ (by have := s[2].toNat_lt; omega)
  have hpar : (⟨(s[2].toNat : Int), E3, E5, E13, B⟩ : Fr) = parts s.data.toList := by
    unfold parts
    rw [hBl, hE3, hE5, hE13, byte_at s 2 p2]; rfl
  have HG := Lib.hid hG
  have HE3 := Lib.hid hE3
  have HE5 := Lib.hid hE5
  have HE13 := Lib.hid hE13
  have HP := Lib.hid hpar
  clear hm ha h0 h1 hN h2 hal hE3 hE5 hE13 hG hg hGs hB hBl hlen hpar
  go_enter Tryd.func42, Tryd.ntmps42
  go_wp2_with fail
  with_reducible refine (read_is s 21 2 _ hs' (by omega) (by omega) 21 2 N rfl rfl HN.out).mono ?_
  rintro e v ⟨rfl, hb⟩
  have hbw : Below w.heap.size w v := HAL.out.trans (hb.mono (by simp))
  have hX0 : v.heap[w.heap.size]? = some (.cells zeros 57 (0, 0)) := (hb.block w.heap.size (by simp)).trans (heap_alloc_new w _)
  have htv : TabAt v := ht.below hbw ht.pos
  go_wp2_with fail
  with_reducible refine (good_yes s G _ hs' htv h3 HG.out).mono ?_
  rintro e v2 ⟨rfl, hb2⟩
  have hX2 : v2.heap[w.heap.size]? = some (.cells zeros 57 (0, 0)) := (hb2.block _ (lt_of_block hX0)).trans hX0
  have hbw2 : Below w.heap.size w v2 := hbw.trans (hb2.mono hbw.size)
  have HR0 := Lib.hid (show Below w.heap.size w v2.drew ∧ v2.drew.heap[w.heap.size]? = some (.cells zeros 57 (0, 0)) from ⟨below_drewN hbw2 1, hX2⟩)
  clear hX0 hX2 hbw hbw2 hb hb2 htv
  go_wp2_with fail
  refine' wp_flow [only 0 _, only 1 _, only 2 _, only 3 _, only 4 (.int .u64 E3), only 5 _, only 6 _, only 7 (.int .u64 E5), only 8 _, only 9 (.int .u64 E13), only 10 _, only 11 _, only 12 _, own 13 (fun x v => ∃ g, x = .pointer (some ⟨g, 0, none⟩) ∧ w.heap.size < g ∧ v.heap[g]? = some (.cells zeros 57 (0, 0))), (fun us v => ∃ g, us 13 = .pointer (some ⟨g, 0, none⟩) ∧ w.heap.size < g ∧ v.heap[g]? = some (.cells #[.int .i64 (s[2].toNat : Int), .int .i64 E3, .int .u64 E5, .int .u64 E13, .string B] 57 (0, 0)))] (fun v => Below w.heap.size w v ∧ v.heap[w.heap.size]? = some (.cells zeros 57 (0, 0))) [[], [0], [1], [], [3], [4], [], [6], [], [8], [], [10], [2, 5, 7, 9, 11], [], [12, 13]] [[], [], [], [], [], [], [], [], [], [], [], [], [], [], [13]] [[], [], [], [], [], [], [], [], [], [], [], [], [], [], []] [[13], [13], [13], [13], [13], [13], [13], [13], [13], [13], [13], [13], [13], [], []] [13, 14] [0, 1, 3, 0, 8, 24, 0, 64, 0, 256, 0, 1024, 4095, 0, 16383] _ (fun us => ?hfr) (by kernel_rfl) (by kernel_rfl) (by kernel_rfl) ⟨only_still _, only_still _, only_still _, only_still _, only_still _, only_still _, only_still _, only_still _, only_still _, only_still _, only_still _, only_still _, only_still _, trivial, trivial, trivial⟩ (HR0.out) (by simp) (trivial) ?hst ?hla
  case hfr => (simp only [List.cons_append, List.nil_append, putAll, Act.put, List.setIfInBounds_toArray, List.set_cons_zero, List.set_cons_succ, Nat.reduceAdd]; rfl)
  case hst =>
    refine ⟨?_, ?_, ?_, ?_, ?_, ?_, ?_, ?_, ?_, ?_, ?_, ?_, ?_, ?_, ?_, trivial⟩
    · intro us v hR hn ho K hK
      clear ho
      obtain ⟨r1, r2⟩ := id hR
      rw [if_pos (by rfl)]
      go_simp
      refine hK _ _ _ (by simp only [Act.put, List.setIfInBounds_toArray, List.set_cons_zero, List.set_cons_succ, Nat.reduceAdd] <;> rfl) ?_ hR ⟨fun h => h, trivial⟩
      refine only_mk (v := v) ?_
      with_reducible rfl
    · intro us v hR hn ho K hK
      obtain ⟨n0, -⟩ := hn
      have n0 : us 0 = _ := n0
      clear ho
      obtain ⟨r1, r2⟩ := id hR
      rw [if_pos (by rfl)]
      go_simp
      refine hK _ _ _ (by simp only [Act.put, List.setIfInBounds_toArray, List.set_cons_zero, List.set_cons_succ, Nat.reduceAdd, n0] <;> rfl) ?_ hR ⟨fun h => h, trivial⟩
      refine only_mk (v := v) ?_
      with_reducible rfl
    · intro us v hR hn ho K hK
      obtain ⟨n1, -⟩ := hn
      have n1 : us 1 = _ := n1
      clear ho
      obtain ⟨r1, r2⟩ := id hR
      rw [if_pos (by rfl)]
      go_simp
      refine hK _ _ _ (by simp only [Act.put, List.setIfInBounds_toArray, List.set_cons_zero, List.set_cons_succ, Nat.reduceAdd, n1] <;> rfl) ?_ hR ⟨fun h => h, trivial⟩
      refine only_mk (v := v) ?_
      with_reducible rfl
    · intro us v hR hn ho K hK
      clear ho
      obtain ⟨r1, r2⟩ := id hR
      rw [if_pos (by rfl)]
      go_simp
      refine hK _ _ _ (by simp only [Act.put, List.setIfInBounds_toArray, List.set_cons_zero, List.set_cons_succ, Nat.reduceAdd] <;> rfl) ?_ hR ⟨fun h => h, trivial⟩
      refine only_mk (v := v) ?_
      with_reducible rfl
    · intro us v hR hn ho K hK
      obtain ⟨n3, -⟩ := hn
      have n3 : us 3 = _ := n3
      clear ho
      obtain ⟨r1, r2⟩ := id hR
      rw [if_pos (by rfl)]
      go_simp
      with_reducible refine (read_is s 3 2 _ hs' (by omega) (by omega) 3 2 E3 rfl rfl HE3.out).mono ?_
      rintro e v' ⟨rfl, hbr⟩
      dsimp only
      exact hK _ _ _ (by simp only [Act.put, List.setIfInBounds_toArray, List.set_cons_zero, List.set_cons_succ, Nat.reduceAdd, n3] <;> rfl) rfl ⟨r1.trans (hbr.mono r1.size), (hbr.block _ (lt_of_block r2)).trans r2⟩ ⟨fun ⟨g, h1, h2, h3⟩ => ⟨g, h1, h2, (hbr.block _ (lt_of_block h3)).trans h3⟩, trivial⟩
    · intro us v hR hn ho K hK
      obtain ⟨n4, -⟩ := hn
      have n4 : us 4 = _ := n4
      clear ho
      obtain ⟨r1, r2⟩ := id hR
      rw [if_pos (by rfl)]
      go_simp
      refine hK _ _ _ (by simp only [Act.put, List.setIfInBounds_toArray, List.set_cons_zero, List.set_cons_succ, Nat.reduceAdd, n4] <;> rfl) ?_ hR ⟨fun h => h, trivial⟩
      refine only_mk (v := v) ?_
      with_reducible rfl
    · intro us v hR hn ho K hK
      clear ho
      obtain ⟨r1, r2⟩ := id hR
      rw [if_pos (by rfl)]
      go_simp
      refine hK _ _ _ (by simp only [Act.put, List.setIfInBounds_toArray, List.set_cons_zero, List.set_cons_succ, Nat.reduceAdd] <;> rfl) ?_ hR ⟨fun h => h, trivial⟩
      refine only_mk (v := v) ?_
      with_reducible rfl
    · intro us v hR hn ho K hK
      obtain ⟨n6, -⟩ := hn
      have n6 : us 6 = _ := n6
      clear ho
      obtain ⟨r1, r2⟩ := id hR
      rw [if_pos (by rfl)]
      go_simp
      with_reducible refine (read_is s 5 8 _ hs' (by omega) (by omega) 5 8 E5 rfl rfl HE5.out).mono ?_
      rintro e v' ⟨rfl, hbr⟩
      dsimp only
      exact hK _ _ _ (by simp only [Act.put, List.setIfInBounds_toArray, List.set_cons_zero, List.set_cons_succ, Nat.reduceAdd, n6] <;> rfl) rfl ⟨r1.trans (hbr.mono r1.size), (hbr.block _ (lt_of_block r2)).trans r2⟩ ⟨fun ⟨g, h1, h2, h3⟩ => ⟨g, h1, h2, (hbr.block _ (lt_of_block h3)).trans h3⟩, trivial⟩
    · intro us v hR hn ho K hK
      clear ho
      obtain ⟨r1, r2⟩ := id hR
      rw [if_pos (by rfl)]
      go_simp
      refine hK _ _ _ (by simp only [Act.put, List.setIfInBounds_toArray, List.set_cons_zero, List.set_cons_succ, Nat.reduceAdd] <;> rfl) ?_ hR ⟨fun h => h, trivial⟩
      refine only_mk (v := v) ?_
      with_reducible rfl
    · intro us v hR hn ho K hK
      obtain ⟨n8, -⟩ := hn
      have n8 : us 8 = _ := n8
      clear ho
      obtain ⟨r1, r2⟩ := id hR
      rw [if_pos (by rfl)]
      go_simp
      with_reducible refine (read_is s 13 8 _ hs' (by omega) (by omega) 13 8 E13 rfl rfl HE13.out).mono ?_
      rintro e v' ⟨rfl, hbr⟩
      dsimp only
      exact hK _ _ _ (by simp only [Act.put, List.setIfInBounds_toArray, List.set_cons_zero, List.set_cons_succ, Nat.reduceAdd, n8] <;> rfl) rfl ⟨r1.trans (hbr.mono r1.size), (hbr.block _ (lt_of_block r2)).trans r2⟩ ⟨fun ⟨g, h1, h2, h3⟩ => ⟨g, h1, h2, (hbr.block _ (lt_of_block h3)).trans h3⟩, trivial⟩
    · intro us v hR hn ho K hK
      clear ho
      obtain ⟨r1, r2⟩ := id hR
      rw [if_pos (by rfl)]
      go_simp
      refine hK _ _ _ (by simp only [Act.put, List.setIfInBounds_toArray, List.set_cons_zero, List.set_cons_succ, Nat.reduceAdd] <;> rfl) ?_ hR ⟨fun h => h, trivial⟩
      refine only_mk (v := v) ?_
      with_reducible rfl
    · intro us v hR hn ho K hK
      obtain ⟨n10, -⟩ := hn
      have n10 : us 10 = _ := n10
      clear ho
      obtain ⟨r1, r2⟩ := id hR
      rw [if_pos (by rfl)]
      go_simp
      refine hK _ _ _ (by simp only [Act.put, List.setIfInBounds_toArray, List.set_cons_zero, List.set_cons_succ, Nat.reduceAdd, n10] <;> rfl) ?_ hR ⟨fun h => h, trivial⟩
      refine only_mk (v := v) ?_
      with_reducible rfl
    · intro us v hR hn ho K hK
      obtain ⟨n2, n5, n7, n9, n11, -⟩ := hn
      have n2 : us 2 = _ := n2
      have n5 : us 5 = _ := n5
      have n7 : us 7 = _ := n7
      have n9 : us 9 = _ := n9
      have n11 : us 11 = _ := n11
      clear ho
      obtain ⟨r1, r2⟩ := id hR
      rw [if_pos (by rfl)]
      go_simp
      refine hK _ _ _ (by simp only [Act.put, List.setIfInBounds_toArray, List.set_cons_zero, List.set_cons_succ, Nat.reduceAdd, n2, n5, n7, n9, n11] <;> rfl) ?_ hR ⟨fun h => h, trivial⟩
      refine only_mk (v := v) ?_
      with_reducible rfl
    · intro us v hR hn ho K hK
      clear ho
      obtain ⟨r1, r2⟩ := id hR
      rw [if_pos (by rfl)]
      go_simp
      have hb1 : Below v.heap.size v (v.alloc (.cells zeros 57)) := (Below.refl _ _).alloc (Nat.le_refl _) _
      exact hK _ _ _ (by simp only [Act.put, List.setIfInBounds_toArray, List.set_cons_zero, List.set_cons_succ, Nat.reduceAdd] <;> rfl) ⟨v.heap.size, rfl, lt_of_block r2, heap_alloc_new v _⟩ ⟨r1.trans (hb1.mono r1.size), (hb1.block _ (lt_of_block r2)).trans r2⟩ trivial
    · intro us v hR hn ho K hK
      obtain ⟨n12, n13, -⟩ := hn
      have n12 : us 12 = _ := n12
      clear ho
      obtain ⟨r1, r2⟩ := id hR
      obtain ⟨g, e13, hg1, hg2⟩ := n13
      have z0 := cell_of_block hg2 0
      have z1 := cell_of_block hg2 1
      have z2 := cell_of_block hg2 2
      have z3 := cell_of_block hg2 3
      have z4 := cell_of_block hg2 4
      simp [zeros] at z0 z1 z2 z3 z4
      have f0 := frozen_of_block hg2 0
      have f1 := frozen_of_block hg2 1
      have f2 := frozen_of_block hg2 2
      have f3 := frozen_of_block hg2 3
      have f4 := frozen_of_block hg2 4
      rw [if_pos (by rfl)]
      go_simp
      exact hK undef _ _ (by simp only [Act.put, List.setIfInBounds_toArray, List.set_cons_zero, List.set_cons_succ, Nat.reduceAdd, n12, e13] <;> rfl) ⟨g, e13, hg1, stored5' hg2 _ _ _ _ _⟩ ⟨r1.trans (stored_below' (Nat.le_of_lt hg1) _ _ _ _ _), (stored_far (Nat.ne_of_lt hg1) _ _ _ _ _).trans r2⟩ trivial
  case hla =>
    intro us v hR hl
    obtain ⟨n0, n1, n2, n3, n4, n5, n6, n7, n8, n9, n10, n11, n12, n14, -⟩ := need_last hl [0, 1, 2, 3, 4, 5, 6, 7, 8, 9, 10, 11, 12, 14] (by kernel_rfl)
    have n0 : us 0 = _ := n0
    have n1 : us 1 = _ := n1
    have n2 : us 2 = _ := n2
    have n3 : us 3 = _ := n3
    have n4 : us 4 = _ := n4
    have n5 : us 5 = _ := n5
    have n6 : us 6 = _ := n6
    have n7 : us 7 = _ := n7
    have n8 : us 8 = _ := n8
    have n9 : us 9 = _ := n9
    have n10 : us 10 = _ := n10
    have n11 : us 11 = _ := n11
    have n12 : us 12 = _ := n12
    obtain ⟨r1, r2⟩ := id hR
    simp only [n0, n1, n2, n3, n4, n5, n6, n7, n8, n9, n10, n11, n12]
    clear hl n0 n1 n2 n3 n4 n5 n6 n7 n8 n9 n10 n11 n12
    obtain ⟨g, e13, hg1, hg2⟩ := n14
    simp only [e13]
    have z0 := cell_of_block hg2 0
    have z1 := cell_of_block hg2 1
    have z2 := cell_of_block hg2 2
    have z3 := cell_of_block hg2 3
    have z4 := cell_of_block hg2 4
    simp at z0 z1 z2 z3 z4
    clear n0 n3 n6 n8 n10
    cases hr : (parts s.data.toList).right
    all_goals
      have HRR := Lib.hid hr
      clear hr
      go_wp2_with fail
    · refine (right_is ⟨(s[2].toNat : Int), E3, E5, E13, B⟩ false (by rw [HP.out]; exact HRR.out) _).mono ?_
      rintro e v3 ⟨rfl, hb3⟩
      have hX : v3.heap[w.heap.size]? = some (.cells zeros 57 (0, 0)) := (hb3.block _ (lt_of_block r2)).trans r2
      have x0 := cell_of_block hX 0
      have x1 := cell_of_block hX 1
      have x2 := cell_of_block hX 2
      have x3 := cell_of_block hX 3
      have x4 := cell_of_block hX 4
      simp [zeros] at x0 x1 x2 x3 x4
      have y0 := frozen_of_block hX 0
      have y1 := frozen_of_block hX 1
      have y2 := frozen_of_block hX 2
      have y3 := frozen_of_block hX 3
      have y4 := frozen_of_block hX 4
      have hlt := lt_of_block hX
      have hsz : w.heap.size ≤ v3.heap.size := Nat.le_of_lt hlt
      go_wp2_with fail
      refine get_end _ _ w.heap.size rfl rfl (stored5 hX _ _ _ _ _ _) ⟨fun h => absurd (HRR.out.symm.trans h) (by simp), fun _ => ⟨v3.heap.size, rfl, ?_, hsz, (r1.trans (hb3.mono r1.size)).trans (stored_below (Nat.le_refl _) hsz _ _ _ _ _ _)⟩⟩
      exact fault_stored _ _ _ _ _ _ _ _ _
    · refine (right_is ⟨(s[2].toNat : Int), E3, E5, E13, B⟩ true (by rw [HP.out]; exact HRR.out) _).mono ?_
      rintro e v3 ⟨rfl, hb3⟩
      have hX : v3.heap[w.heap.size]? = some (.cells zeros 57 (0, 0)) := (hb3.block _ (lt_of_block r2)).trans r2
      have hg3 := (hb3.block _ (lt_of_block hg2)).trans hg2
      clear z0 z1 z2 z3 z4
      have z0 := cell_of_block hg3 0
      have z1 := cell_of_block hg3 1
      have z2 := cell_of_block hg3 2
      have z3 := cell_of_block hg3 3
      have z4 := cell_of_block hg3 4
      simp at z0 z1 z2 z3 z4
      have x0 := cell_of_block hX 0
      have x1 := cell_of_block hX 1
      have x2 := cell_of_block hX 2
      have x3 := cell_of_block hX 3
      have x4 := cell_of_block hX 4
      simp [zeros] at x0 x1 x2 x3 x4
      have y0 := frozen_of_block hX 0
      have y1 := frozen_of_block hX 1
      have y2 := frozen_of_block hX 2
      have y3 := frozen_of_block hX 3
      have y4 := frozen_of_block hX 4
      have hlt := lt_of_block hX
      have hsz : w.heap.size ≤ v3.heap.size := Nat.le_of_lt hlt
      go_wp2_with fail
      refine get_end _ _ w.heap.size rfl rfl (stored5' hX _ _ _ _ _) ⟨fun _ => ⟨?_, (r1.trans (hb3.mono r1.size)).trans (stored_below' (Nat.le_refl _) _ _ _ _ _)⟩, fun h => absurd (HRR.out.symm.trans h) (by simp)⟩
      rw [← HP.out]; rfl
end
end Go.Proofs.YtihhflajkohibaaDoor.Frame
