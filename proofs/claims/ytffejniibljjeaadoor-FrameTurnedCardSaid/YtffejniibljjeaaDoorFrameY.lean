/- Layer 6: the statements' awake returns true. Conditions: the table of layer 5 and the variable of package errors are laid. -/
import Derived.Test.YtffejniibljjeaaDoorFrameX
namespace Go.Proofs.YtffejniibljjeaaDoor.Frame
set_option linter.unusedSimpArgs false
set_option linter.unusedVariables false
open Go.RowKit
open Go.Proofs.YtffejniibljjeaaDoor
open Go.Proofs.YtffejniibljjeaaDoor.Link (Fr right_is right_any frBox bcell ret_bool empty_size)

theorem Same_is (f g : Fr) (r : Bool) (h : frSame f g = r) (w : World) : Calls Tryd.prog 13 #[f.val, g.val] w fun e w' => e = .returned (.bool r) ∧ Below w.heap.size w w' := by subst h; exact Same_any f g w
/-- Put of a frame that may be -/
theorem Put_is (f : Fr) (S : ByteArray) (hr : f.right = true) (hf : Fits f) (hS : S = ⟨(put f).toArray⟩) (w : World) (ht : TabAt w) : Calls Tryd.prog 10 #[f.val] w fun e w' => e = .returned (.tuple #[.string S, .int .i64 0]) ∧ Below w.heap.size w w' := by
  subst hS
  obtain ⟨q0, q1, q2, q3⟩ := right_iff.1 hr
  obtain ⟨k, ep, sq, ak, b⟩ := f
  have a0 := hf.s0
  have a1 := hf.a0
  simp only at q0 q1 q2 q3 a0 a1
  obtain ⟨k, rfl⟩ := Int.eq_ofNat_of_zero_le (show 0 ≤ k by omega)
  obtain ⟨ep, rfl⟩ := Int.eq_ofNat_of_zero_le q0
  obtain ⟨sq, rfl⟩ := Int.eq_ofNat_of_zero_le a0
  obtain ⟨ak, rfl⟩ := Int.eq_ofNat_of_zero_le a1
  exact put_yes k ep sq ak b w hr ht
theorem Put_no (f : Fr) (hr : f.right = false) (w : World) : Calls Tryd.prog 10 #[f.val] w fun e w' => e = .returned (.tuple #[.string ⟨#[]⟩, .int .i64 60]) ∧ Below w.heap.size w w' := by
  obtain ⟨k, ep, sq, ak, b⟩ := f
  exact put_no k ep sq ak b w hr
theorem refPut_is (f : Fr) (S : ByteArray) (hr : f.right = true) (hf : Fits f) (hS : S = ⟨(put f).toArray⟩) (w : World) : Calls Tryd.prog 14 #[f.val] w fun e w' => e = .returned (.string S) ∧ Below w.heap.size w w' := by
  subst hS
  obtain ⟨q0, q1, q2, q3⟩ := right_iff.1 hr
  obtain ⟨k, ep, sq, ak, b⟩ := f
  have a0 := hf.s0
  have a1 := hf.a0
  have a2 := hf.s1
  have a3 := hf.a1
  simp only at q0 q1 q2 q3 a0 a1 a2 a3
  obtain ⟨k, rfl⟩ := Int.eq_ofNat_of_zero_le (show 0 ≤ k by omega)
  obtain ⟨ep, rfl⟩ := Int.eq_ofNat_of_zero_le q0
  obtain ⟨sq, rfl⟩ := Int.eq_ofNat_of_zero_le a0
  obtain ⟨ak, rfl⟩ := Int.eq_ofNat_of_zero_le a1
  exact refPut_any k ep sq ak b w hr (by omega) (by omega)
theorem Get_is (s : ByteArray) (f : Fr) (n : Int) (w : World) (hs : s.size ≤ maxLen) (hf : f = get s.data.toList) (hn : n = (why s.data.toList).2) (ht : TabAt w) (hg : ErrAt w) : Calls Tryd.prog 15 #[.string s] w fun e w' => e = .returned (.tuple #[f.val, .int .i64 n]) ∧ Below w.heap.size w w' := by
  subst hf hn; exact Get_any s w hs ht hg
theorem Why_is (s : ByteArray) (a : Nat) (n : Int) (w : World) (hs : s.size ≤ maxLen) (ha : a = (why s.data.toList).1) (hn : n = (why s.data.toList).2) (ht : TabAt w) (hg : ErrAt w) : Calls Tryd.prog 16 #[.string s] w fun e w' => e = .returned (.tuple #[.int .i64 (a : Int), .int .i64 n]) ∧ Below w.heap.size w w' := by
  subst ha hn; exact Why_any s w hs ht hg
/-- the chapter's example -/
def f0 : Fr := ⟨2, 1, 0, 2, ⟨#[]⟩⟩
theorem same_f0 : frSame f0 f0 = true := frSame_iff.2 rfl
theorem f0_val : f0.val = .agg #[.int .i64 2, .int .i64 1, .int .u64 0, .int .u64 2, .string ⟨#[]⟩] := rfl
theorem slice_to {P : Program} {t : TypeId} (ht : P.underlying t = some .string) (s : ByteArray) (j : Nat) (hj : j ≤ s.size) (w : World) :
    (Instr.slice t (.string s) Option.none (some (.int .i64 (j : Int))) Option.none).run P w = .ok (.string (s.extract 0 j)) w := by
  rw [run_slice_string_to_if w t s .i64 _ ht, if_pos ⟨by omega, by omega⟩]; rfl
set_option maxRecDepth 100000 in
set_option maxHeartbeats 4000000 in
theorem awake_any (w : World) (ht : TabAt w) (hg : ErrAt w) : Calls Tryd.prog 9 #[] w fun e w' => e = .returned (.bool true) ∧ Below w.heap.size w w' := by
  have hr0 : f0.right = true := rfl
  have hf0 : Fits f0 := ⟨by decide, by decide, by decide, by decide⟩
  obtain ⟨S, hS⟩ : ∃ S : ByteArray, S = ⟨(put f0).toArray⟩ := ⟨_, rfl⟩
  have hl : S.data.toList = put f0 := by rw [hS]
  have hs : S.size = 27 := by rw [← length_size, hl, put_length]; rfl
  have hP : S.extract 0 5 = ⟨#[78, 1, 2, 0, 1]⟩ := by rw [hS]; decide +kernel
  have h20 : (20 : Nat) < S.size := by omega
  have hi20 : ((S[20]'h20).toNat : Int) = 2 := by
    rw [← byte_at S 20 h20, hl]; decide +kernel
  have HP5 : (why ([78, 1, 2, 0, 1] : List UInt8)) = (5, 61) := by decide +kernel
  have hsl : ∀ w, (Instr.slice 9 (.string S) Option.none (some (.int .i64 5)) Option.none).run Tryd.prog w = .ok (.string ⟨#[78, 1, 2, 0, 1]⟩) w := fun w => by
    have h := slice_to Tryd.underlying9 S 5 (by omega) w
    rw [hP] at h; exact h
  have hwhy := why_put f0 hr0 hf0
  have hget := get_put f0 hr0 hf0
  rw [← hl] at hwhy hget
  have HS := Lib.hid hS
  have HW := Lib.hid hwhy
  have HG := Lib.hid hget
  have HP5 := Lib.hid HP5
  have hle : S.size ≤ maxLen := by rw [hs]; decide
  have HLE := Lib.hid hle
  clear hS hl hP hwhy hget hle
  have hgp := hg.pos
  have htp := ht.pos
  have hA1 : Below w.heap.size w (w.alloc (.cells #[.int .i64 2, .int .i64 1, .int .u64 0, .int .u64 2, .string ⟨#[]⟩] 25)) := (Below.refl _ _).alloc (Nat.le_refl _) _
  go_enter Tryd.func9, Tryd.ntmps9
  go_wp2_with fail
  refine (Put_is f0 S hr0 hf0 HS.out _ (ht.below hA1 htp)).mono ?_
  rintro e w1 ⟨rfl, hb1⟩
  have hB1 : Below w.heap.size w w1 := hA1.trans (hb1.mono (by simp))
  go_wp2_with fail
  refine (Get_is S f0 0 _ HLE.out HG.out.symm (by rw [HW.out]) (ht.below hB1 htp) (hg.below hB1 hgp)).mono ?_
  rintro e w2 ⟨rfl, hb2⟩
  have hB2 : Below w.heap.size w w2 := hB1.trans (hb2.mono hB1.size)
  rw [f0_val]
  go_wp2_with fail
  have hA2 : Below w2.heap.size w2 (w2.alloc (.cells #[.int .i64 2, .int .i64 1, .int .u64 0, .int .u64 2, .string ⟨#[]⟩] 25)) := (Below.refl _ _).alloc (Nat.le_refl _) _
  have hB3 : Below w.heap.size w (w2.alloc (.cells #[.int .i64 2, .int .i64 1, .int .u64 0, .int .u64 2, .string ⟨#[]⟩] 25)) := hB2.trans (hA2.mono hB2.size)
  refine (Why_is ⟨#[78, 1, 2, 0, 1]⟩ 5 61 _ (by decide) (by rw [HP5.out]) (by rw [HP5.out]) (ht.below hB3 htp) (hg.below hB3 hgp)).mono ?_
  rintro e w3 ⟨rfl, hb3⟩
  have hB4 : Below w.heap.size w w3 := hB3.trans (hb3.mono hB3.size)
  have hX1 : w3.heap[w.heap.size]? = some (.cells #[.int .i64 2, .int .i64 1, .int .u64 0, .int .u64 2, .string ⟨#[]⟩] 25 (0, 0)) := by
    have h1 : w1.heap[w.heap.size]? = some (.cells #[.int .i64 2, .int .i64 1, .int .u64 0, .int .u64 2, .string ⟨#[]⟩] 25 (0, 0)) := (hb1.block _ (by simp)).trans (heap_alloc_new w _)
    have h2 := (hb2.block _ (lt_of_block h1)).trans h1
    have h3 := (hA2.block _ (lt_of_block h2)).trans h2
    exact (hb3.block _ (lt_of_block h3)).trans h3
  have hX4 : w3.heap[w2.heap.size]? = some (.cells #[.int .i64 2, .int .i64 1, .int .u64 0, .int .u64 2, .string ⟨#[]⟩] 25 (0, 0)) := (hb3.block _ (by simp)).trans (heap_alloc_new w2 _)
  have HR0 := Lib.hid (show w3.drew.heap[w.heap.size]? = some (.cells #[.int .i64 2, .int .i64 1, .int .u64 0, .int .u64 2, .string ⟨#[]⟩] 25 (0, 0)) ∧ w3.drew.heap[w2.heap.size]? = some (.cells #[.int .i64 2, .int .i64 1, .int .u64 0, .int .u64 2, .string ⟨#[]⟩] 25 (0, 0)) ∧ Below w.heap.size w w3.drew from ⟨hX1, hX4, below_drewN hB4 1⟩)
  clear hX1 hX4
  go_wp2_with fail
  refine' wp_flow [only 0 (Value.int .i64 0), only 1 (Value.bool true), only 2 (Value.bool true), only 3 (Value.string S), only 4 (Value.int .i64 27), only 5 (Value.bool true), only 6 (Value.bool true), only 7 (Value.bool true), only 8 (Value.string S), only 9 (Value.string ⟨#[78, 1, 2, 0, 1]⟩), own 10 (fun x v => ∃ g c, x = .slice (some ⟨g, 0, Option.none⟩) 4 c ∧ Vec v [g] 1 (some ⟨g, 0, Option.none⟩) 4 c (([1, 2, 0, 1] : List UInt8).map bv)), only 11 (.string ⟨#[1, 2, 0, 1]⟩), only 12 (Value.string ⟨#[78, 1, 2, 0, 1]⟩), only 13 (Value.bool true), only 14 (Value.bool true), only 15 (Value.bool true), only 16 (Value.string S), only 17 (Value.int .u8 2), only 18 (Value.bool true), only 19 (Value.bool true), only 20 (Value.bool true), only 21 (Value.int .i64 0), only 22 (Value.bool true), only 23 (Value.bool true), only 24 (Value.bool true), only 25 (.agg #[.int .i64 2, .int .i64 1, .int .u64 0, .int .u64 2, .string ⟨#[]⟩]), only 26 (.agg #[.int .i64 2, .int .i64 1, .int .u64 0, .int .u64 2, .string ⟨#[]⟩]), only 27 (.bool true), only 28 (Value.bool true), only 29 (Value.bool true), only 30 (Value.int .i64 5), only 31 (Value.bool true), only 32 (Value.bool true), only 33 (Value.bool true), only 34 (Value.int .i64 61), only 35 (Value.bool true), only 36 (Value.bool true), only 37 (Value.bool true), only 38 (.agg #[.int .i64 2, .int .i64 1, .int .u64 0, .int .u64 2, .string ⟨#[]⟩]), only 39 (.bool true), only 40 (Value.bool true), only 41 (Value.bool true), only 42 (.agg #[.int .i64 0, .int .i64 0, .int .u64 0, .int .u64 0, .string ⟨#[]⟩]), only 43 (.bool false), only 44 (Value.bool true), only 45 (Value.bool true), only 46 (Value.bool true), only 47 (.agg #[.int .i64 2, .int .i64 1, .int .u64 0, .int .u64 2, .string ⟨#[]⟩]), only 48 (.agg #[.int .i64 0, .int .i64 0, .int .u64 0, .int .u64 0, .string ⟨#[]⟩]), only 49 (.bool false), only 50 (Value.bool true), only 51 (Value.bool true), only 52 (Value.bool true)] (fun v => v.heap[w.heap.size]? = some (.cells #[.int .i64 2, .int .i64 1, .int .u64 0, .int .u64 2, .string ⟨#[]⟩] 25 (0, 0)) ∧ v.heap[w2.heap.size]? = some (.cells #[.int .i64 2, .int .i64 1, .int .u64 0, .int .u64 2, .string ⟨#[]⟩] 25 (0, 0)) ∧ Below w.heap.size w v) [[], [0], [1], [2], [2, 3], [2, 4], [2, 5], [6], [7], [7, 8], [7], [7, 10], [7, 11], [7, 9, 12], [7, 13], [14], [15], [15, 16], [15, 17], [15, 18], [19], [20], [20, 21], [20, 22], [23], [24], [24], [24, 25, 26], [24, 27], [28], [29], [29, 30], [29, 31], [32], [33], [33, 34], [33, 35], [36], [37], [37, 38], [37, 39], [40], [41], [41, 42], [41, 43], [41, 44], [45], [46], [46], [46, 47, 48], [46, 49], [46, 50], [51]] [[], [], [], [], [], [], [], [], [], [], [], [10], [], [], [], [], [], [], [], [], [], [], [], [], [], [], [], [], [], [], [], [], [], [], [], [], [], [], [], [], [], [], [], [], [], [], [], [], [], [], [], [], []] [[], [], [], [], [], [], [], [], [], [], [], [], [], [], [], [], [], [], [], [], [], [], [], [], [], [], [], [], [], [], [], [], [], [], [], [], [], [], [], [], [], [], [], [], [], [], [], [], [], [], [], [], []] [[], [], [], [], [], [], [], [], [10], [10], [], [], [], [], [], [], [], [], [], [], [], [], [], [], [], [], [], [], [], [], [], [], [], [], [], [], [], [], [], [], [], [], [], [], [], [], [], [], [], [], [], [], []] [10] [0, 1, 3, 7, 15, 31, 63, 127, 255, 511, 255, 1279, 3327, 8191, 16383, 32767, 65535, 131071, 262143, 524287, 1048575, 2097151, 4194303, 8388607, 16777215, 33554431, 33554431, 134217727, 268435455, 536870911, 1073741823, 2147483647, 4294967295, 8589934591, 17179869183, 34359738367, 68719476735, 137438953471, 274877906943, 549755813887, 1099511627775, 2199023255551, 4398046511103, 8796093022207, 17592186044415, 35184372088831, 70368744177663, 140737488355327, 140737488355327, 562949953421311, 1125899906842623, 2251799813685247, 4503599627370495] _ (fun us => ?hfr) (by kernel_rfl) (by kernel_rfl) (by kernel_rfl) ⟨only_still _, only_still _, only_still _, only_still _, only_still _, only_still _, only_still _, only_still _, only_still _, only_still _, trivial, only_still _, only_still _, only_still _, only_still _, only_still _, only_still _, only_still _, only_still _, only_still _, only_still _, only_still _, only_still _, only_still _, only_still _, only_still _, only_still _, only_still _, only_still _, only_still _, only_still _, only_still _, only_still _, only_still _, only_still _, only_still _, only_still _, only_still _, only_still _, only_still _, only_still _, only_still _, only_still _, only_still _, only_still _, only_still _, only_still _, only_still _, only_still _, only_still _, only_still _, only_still _, only_still _, trivial⟩ (HR0.out) (by simp) (trivial) ?hst ?hla
  case hfr => (simp only [putAll, Act.put, List.setIfInBounds_toArray, List.set_cons_zero, List.set_cons_succ, Nat.reduceAdd]; rfl)
  case hst =>
    refine ⟨?_, ?_, ?_, ?_, ?_, ?_, ?_, ?_, ?_, ?_, ?_, ?_, ?_, ?_, ?_, ?_, ?_, ?_, ?_, ?_, ?_, ?_, ?_, ?_, ?_, ?_, ?_, ?_, ?_, ?_, ?_, ?_, ?_, ?_, ?_, ?_, ?_, ?_, ?_, ?_, ?_, ?_, ?_, ?_, ?_, ?_, ?_, ?_, ?_, ?_, ?_, ?_, ?_, trivial⟩
    · intro us v hR hn ho K hK
      clear ho
      obtain ⟨r1, r4, r5⟩ := id hR
      rw [if_pos (by rfl)]
      go_simp
      refine hK _ _ _ (by simp only [Act.put, List.setIfInBounds_toArray, List.set_cons_zero, List.set_cons_succ, Nat.reduceAdd] <;> rfl) ?_ hR trivial
      refine only_mk (v := v) ?_
      with_reducible rfl
    · intro us v hR hn ho K hK
      obtain ⟨n0, -⟩ := hn
      have n0 : us 0 = _ := n0
      clear ho
      obtain ⟨r1, r4, r5⟩ := id hR
      rw [if_pos (by rfl)]
      go_simp
      refine hK _ _ _ (by simp only [Act.put, List.setIfInBounds_toArray, List.set_cons_zero, List.set_cons_succ, Nat.reduceAdd, n0] <;> rfl) ?_ hR trivial
      refine only_mk (v := v) ?_
      with_reducible rfl
    · intro us v hR hn ho K hK
      obtain ⟨n1, -⟩ := hn
      have n1 : us 1 = _ := n1
      clear ho
      obtain ⟨r1, r4, r5⟩ := id hR
      rw [if_pos (by rfl)]
      go_simp
      refine hK _ _ _ (by simp only [Act.put, List.setIfInBounds_toArray, List.set_cons_zero, List.set_cons_succ, Nat.reduceAdd, n1] <;> rfl) ?_ hR trivial
      refine only_mk (v := v) ?_
      with_reducible rfl
    · intro us v hR hn ho K hK
      obtain ⟨n2, -⟩ := hn
      have n2 : us 2 = _ := n2
      clear ho
      obtain ⟨r1, r4, r5⟩ := id hR
      rw [if_pos (by simp [Region.wanted, yielded, n2])]
      go_simp
      refine hK _ _ _ (by simp only [Act.put, List.setIfInBounds_toArray, List.set_cons_zero, List.set_cons_succ, Nat.reduceAdd, n2] <;> rfl) ?_ hR trivial
      refine only_mk (v := v) ?_
      with_reducible rfl
    · intro us v hR hn ho K hK
      obtain ⟨n2, n3, -⟩ := hn
      have n2 : us 2 = _ := n2
      have n3 : us 3 = _ := n3
      clear ho
      obtain ⟨r1, r4, r5⟩ := id hR
      rw [if_pos (by simp [Region.wanted, yielded, n2, n3])]
      go_simp
      refine hK _ _ _ (by simp only [Act.put, List.setIfInBounds_toArray, List.set_cons_zero, List.set_cons_succ, Nat.reduceAdd, n2, n3] <;> rfl) ?_ hR trivial
      refine only_mk (v := v) ?_
      with_reducible rfl
    · intro us v hR hn ho K hK
      obtain ⟨n2, n4, -⟩ := hn
      have n2 : us 2 = _ := n2
      have n4 : us 4 = _ := n4
      clear ho
      obtain ⟨r1, r4, r5⟩ := id hR
      rw [if_pos (by simp [Region.wanted, yielded, n2, n4])]
      go_simp
      refine hK _ _ _ (by simp only [Act.put, List.setIfInBounds_toArray, List.set_cons_zero, List.set_cons_succ, Nat.reduceAdd, n2, n4] <;> rfl) ?_ hR trivial
      refine only_mk (v := v) ?_
      with_reducible rfl
    · intro us v hR hn ho K hK
      obtain ⟨n2, n5, -⟩ := hn
      have n2 : us 2 = _ := n2
      have n5 : us 5 = _ := n5
      clear ho
      obtain ⟨r1, r4, r5⟩ := id hR
      rw [if_pos (by rfl)]
      go_simp
      refine hK _ _ _ (by simp only [Act.put, List.setIfInBounds_toArray, List.set_cons_zero, List.set_cons_succ, Nat.reduceAdd, n2, n5] <;> rfl) ?_ hR trivial
      refine only_mk (v := v) ?_
      with_reducible rfl
    · intro us v hR hn ho K hK
      obtain ⟨n6, -⟩ := hn
      have n6 : us 6 = _ := n6
      clear ho
      obtain ⟨r1, r4, r5⟩ := id hR
      rw [if_pos (by rfl)]
      go_simp
      refine hK _ _ _ (by simp only [Act.put, List.setIfInBounds_toArray, List.set_cons_zero, List.set_cons_succ, Nat.reduceAdd, n6] <;> rfl) ?_ hR trivial
      refine only_mk (v := v) ?_
      with_reducible rfl
    · intro us v hR hn ho K hK
      obtain ⟨n7, -⟩ := hn
      have n7 : us 7 = _ := n7
      clear ho
      obtain ⟨r1, r4, r5⟩ := id hR
      rw [if_pos (by simp [Region.wanted, yielded, n7])]
      go_simp
      refine hK _ _ _ (by simp only [Act.put, List.setIfInBounds_toArray, List.set_cons_zero, List.set_cons_succ, Nat.reduceAdd, n7] <;> rfl) ?_ hR ⟨fun h => h, trivial⟩
      refine only_mk (v := v) ?_
      with_reducible rfl
    · intro us v hR hn ho K hK
      obtain ⟨n7, n8, -⟩ := hn
      have n7 : us 7 = _ := n7
      have n8 : us 8 = _ := n8
      clear ho
      obtain ⟨r1, r4, r5⟩ := id hR
      rw [if_pos (by simp [Region.wanted, yielded, n7, n8])]
      go_simp
      refine hK _ _ _ (by simp only [Act.put, List.setIfInBounds_toArray, List.set_cons_zero, List.set_cons_succ, Nat.reduceAdd, n7, n8] <;> rfl) ?_ hR ⟨fun h => h, trivial⟩
      refine only_mk (v := v) ?_
      with_reducible rfl
    · intro us v hR hn ho K hK
      obtain ⟨n7, -⟩ := hn
      have n7 : us 7 = _ := n7
      clear ho
      obtain ⟨r1, r4, r5⟩ := id hR
      rw [if_pos (by simp [Region.wanted, yielded, n7])]
      go_simp
      have hb : Below v.heap.size v (v.alloc (.cells #[.int .u8 1, .int .u8 2, .int .u8 0, .int .u8 1] 5)) := (Below.refl _ _).alloc (Nat.le_refl _) _
      exact hK _ _ _ (by simp only [Act.put, List.setIfInBounds_toArray, List.set_cons_zero, List.set_cons_succ, Nat.reduceAdd, n7] <;> rfl) ⟨_, _, rfl, Vec.of_new (w := v.alloc (.cells #[.int .u8 1, .int .u8 2, .int .u8 0, .int .u8 1] 5)) (e := 5) (g := v.heap.size) #[.int .u8 1, .int .u8 2, .int .u8 0, .int .u8 1] 1 4 4 (by omega) (by decide) rfl (heap_alloc_new v _)⟩ ⟨(hb.block _ (lt_of_block r1)).trans r1, (hb.block _ (lt_of_block r4)).trans r4, r5.trans (hb.mono r5.size)⟩ trivial
    · intro us v hR hn ho K hK
      obtain ⟨n7, n10, -⟩ := hn
      have n7 : us 7 = _ := n7
      clear ho
      obtain ⟨r1, r4, r5⟩ := id hR
      obtain ⟨g, c, n10, hv⟩ := n10
      have hcv := conv_vec hv (by omega)
      rw [if_pos (by simp [Region.wanted, yielded, n7])]
      go_simp
      exact hK _ _ _ (by simp only [Act.put, List.setIfInBounds_toArray, List.set_cons_zero, List.set_cons_succ, Nat.reduceAdd, n7, n10] <;> rfl) rfl hR trivial
    · intro us v hR hn ho K hK
      obtain ⟨n7, n11, -⟩ := hn
      have n7 : us 7 = _ := n7
      have n11 : us 11 = _ := n11
      clear ho
      obtain ⟨r1, r4, r5⟩ := id hR
      have hcat : (⟨#[78]⟩ : ByteArray) ++ ⟨#[1, 2, 0, 1]⟩ = ⟨#[78, 1, 2, 0, 1]⟩ := by decide
      rw [if_pos (by simp [Region.wanted, yielded, n7, n11])]
      go_simp
      refine hK _ _ _ (by simp only [Act.put, List.setIfInBounds_toArray, List.set_cons_zero, List.set_cons_succ, Nat.reduceAdd, n7, n11] <;> rfl) ?_ hR trivial
      refine only_mk (v := v) ?_
      with_reducible rfl
    · intro us v hR hn ho K hK
      obtain ⟨n7, n9, n12, -⟩ := hn
      have n7 : us 7 = _ := n7
      have n9 : us 9 = _ := n9
      have n12 : us 12 = _ := n12
      clear ho
      obtain ⟨r1, r4, r5⟩ := id hR
      rw [if_pos (by simp [Region.wanted, yielded, n7, n9, n12])]
      go_simp
      refine hK _ _ _ (by simp only [Act.put, List.setIfInBounds_toArray, List.set_cons_zero, List.set_cons_succ, Nat.reduceAdd, n7, n9, n12] <;> rfl) ?_ hR trivial
      refine only_mk (v := v) ?_
      with_reducible rfl
    · intro us v hR hn ho K hK
      obtain ⟨n7, n13, -⟩ := hn
      have n7 : us 7 = _ := n7
      have n13 : us 13 = _ := n13
      clear ho
      obtain ⟨r1, r4, r5⟩ := id hR
      rw [if_pos (by rfl)]
      go_simp
      refine hK _ _ _ (by simp only [Act.put, List.setIfInBounds_toArray, List.set_cons_zero, List.set_cons_succ, Nat.reduceAdd, n7, n13] <;> rfl) ?_ hR trivial
      refine only_mk (v := v) ?_
      with_reducible rfl
    · intro us v hR hn ho K hK
      obtain ⟨n14, -⟩ := hn
      have n14 : us 14 = _ := n14
      clear ho
      obtain ⟨r1, r4, r5⟩ := id hR
      rw [if_pos (by rfl)]
      go_simp
      refine hK _ _ _ (by simp only [Act.put, List.setIfInBounds_toArray, List.set_cons_zero, List.set_cons_succ, Nat.reduceAdd, n14] <;> rfl) ?_ hR trivial
      refine only_mk (v := v) ?_
      with_reducible rfl
    · intro us v hR hn ho K hK
      obtain ⟨n15, -⟩ := hn
      have n15 : us 15 = _ := n15
      clear ho
      obtain ⟨r1, r4, r5⟩ := id hR
      rw [if_pos (by simp [Region.wanted, yielded, n15])]
      go_simp
      refine hK _ _ _ (by simp only [Act.put, List.setIfInBounds_toArray, List.set_cons_zero, List.set_cons_succ, Nat.reduceAdd, n15] <;> rfl) ?_ hR trivial
      refine only_mk (v := v) ?_
      with_reducible rfl
    · intro us v hR hn ho K hK
      obtain ⟨n15, n16, -⟩ := hn
      have n15 : us 15 = _ := n15
      have n16 : us 16 = _ := n16
      clear ho
      obtain ⟨r1, r4, r5⟩ := id hR
      rw [if_pos (by simp [Region.wanted, yielded, n15, n16])]
      go_simp
      refine hK _ _ _ (by simp only [Act.put, List.setIfInBounds_toArray, List.set_cons_zero, List.set_cons_succ, Nat.reduceAdd, n15, n16] <;> rfl) ?_ hR trivial
      refine only_mk (v := v) ?_
      with_reducible rfl
    · intro us v hR hn ho K hK
      obtain ⟨n15, n17, -⟩ := hn
      have n15 : us 15 = _ := n15
      have n17 : us 17 = _ := n17
      clear ho
      obtain ⟨r1, r4, r5⟩ := id hR
      rw [if_pos (by simp [Region.wanted, yielded, n15, n17])]
      go_simp
      refine hK _ _ _ (by simp only [Act.put, List.setIfInBounds_toArray, List.set_cons_zero, List.set_cons_succ, Nat.reduceAdd, n15, n17] <;> rfl) ?_ hR trivial
      refine only_mk (v := v) ?_
      with_reducible rfl
    · intro us v hR hn ho K hK
      obtain ⟨n15, n18, -⟩ := hn
      have n15 : us 15 = _ := n15
      have n18 : us 18 = _ := n18
      clear ho
      obtain ⟨r1, r4, r5⟩ := id hR
      rw [if_pos (by rfl)]
      go_simp
      refine hK _ _ _ (by simp only [Act.put, List.setIfInBounds_toArray, List.set_cons_zero, List.set_cons_succ, Nat.reduceAdd, n15, n18] <;> rfl) ?_ hR trivial
      refine only_mk (v := v) ?_
      with_reducible rfl
    · intro us v hR hn ho K hK
      obtain ⟨n19, -⟩ := hn
      have n19 : us 19 = _ := n19
      clear ho
      obtain ⟨r1, r4, r5⟩ := id hR
      rw [if_pos (by rfl)]
      go_simp
      refine hK _ _ _ (by simp only [Act.put, List.setIfInBounds_toArray, List.set_cons_zero, List.set_cons_succ, Nat.reduceAdd, n19] <;> rfl) ?_ hR trivial
      refine only_mk (v := v) ?_
      with_reducible rfl
    · intro us v hR hn ho K hK
      obtain ⟨n20, -⟩ := hn
      have n20 : us 20 = _ := n20
      clear ho
      obtain ⟨r1, r4, r5⟩ := id hR
      rw [if_pos (by simp [Region.wanted, yielded, n20])]
      go_simp
      refine hK _ _ _ (by simp only [Act.put, List.setIfInBounds_toArray, List.set_cons_zero, List.set_cons_succ, Nat.reduceAdd, n20] <;> rfl) ?_ hR trivial
      refine only_mk (v := v) ?_
      with_reducible rfl
    · intro us v hR hn ho K hK
      obtain ⟨n20, n21, -⟩ := hn
      have n20 : us 20 = _ := n20
      have n21 : us 21 = _ := n21
      clear ho
      obtain ⟨r1, r4, r5⟩ := id hR
      rw [if_pos (by simp [Region.wanted, yielded, n20, n21])]
      go_simp
      refine hK _ _ _ (by simp only [Act.put, List.setIfInBounds_toArray, List.set_cons_zero, List.set_cons_succ, Nat.reduceAdd, n20, n21] <;> rfl) ?_ hR trivial
      refine only_mk (v := v) ?_
      with_reducible rfl
    · intro us v hR hn ho K hK
      obtain ⟨n20, n22, -⟩ := hn
      have n20 : us 20 = _ := n20
      have n22 : us 22 = _ := n22
      clear ho
      obtain ⟨r1, r4, r5⟩ := id hR
      rw [if_pos (by rfl)]
      go_simp
      refine hK _ _ _ (by simp only [Act.put, List.setIfInBounds_toArray, List.set_cons_zero, List.set_cons_succ, Nat.reduceAdd, n20, n22] <;> rfl) ?_ hR trivial
      refine only_mk (v := v) ?_
      with_reducible rfl
    · intro us v hR hn ho K hK
      obtain ⟨n23, -⟩ := hn
      have n23 : us 23 = _ := n23
      clear ho
      obtain ⟨r1, r4, r5⟩ := id hR
      rw [if_pos (by rfl)]
      go_simp
      refine hK _ _ _ (by simp only [Act.put, List.setIfInBounds_toArray, List.set_cons_zero, List.set_cons_succ, Nat.reduceAdd, n23] <;> rfl) ?_ hR trivial
      refine only_mk (v := v) ?_
      with_reducible rfl
    · intro us v hR hn ho K hK
      obtain ⟨n24, -⟩ := hn
      have n24 : us 24 = _ := n24
      clear ho
      obtain ⟨r1, r4, r5⟩ := id hR
      have z0 := cell_of_block r1 0
      have z1 := cell_of_block r1 1
      have z2 := cell_of_block r1 2
      have z3 := cell_of_block r1 3
      have z4 := cell_of_block r1 4
      simp at z0 z1 z2 z3 z4
      rw [if_pos (by simp [Region.wanted, yielded, n24])]
      go_simp
      refine hK _ _ _ (by simp only [Act.put, List.setIfInBounds_toArray, List.set_cons_zero, List.set_cons_succ, Nat.reduceAdd, n24] <;> rfl) ?_ hR trivial
      refine only_mk (v := v) ?_
      with_reducible rfl
    · intro us v hR hn ho K hK
      obtain ⟨n24, -⟩ := hn
      have n24 : us 24 = _ := n24
      clear ho
      obtain ⟨r1, r4, r5⟩ := id hR
      have z0 := cell_of_block r4 0
      have z1 := cell_of_block r4 1
      have z2 := cell_of_block r4 2
      have z3 := cell_of_block r4 3
      have z4 := cell_of_block r4 4
      simp at z0 z1 z2 z3 z4
      rw [if_pos (by simp [Region.wanted, yielded, n24])]
      go_simp
      refine hK _ _ _ (by simp only [Act.put, List.setIfInBounds_toArray, List.set_cons_zero, List.set_cons_succ, Nat.reduceAdd, n24] <;> rfl) ?_ hR trivial
      refine only_mk (v := v) ?_
      with_reducible rfl
    · intro us v hR hn ho K hK
      obtain ⟨n24, n25, n26, -⟩ := hn
      have n24 : us 24 = _ := n24
      have n25 : us 25 = _ := n25
      have n26 : us 26 = _ := n26
      clear ho
      obtain ⟨r1, r4, r5⟩ := id hR
      rw [if_pos (by simp [Region.wanted, yielded, n24])]
      go_simp
      refine (Same_is f0 f0 true same_f0 _).mono ?_
      rintro e v' ⟨rfl, hb⟩
      dsimp only
      exact hK _ _ _ (by simp only [Act.put, List.setIfInBounds_toArray, List.set_cons_zero, List.set_cons_succ, Nat.reduceAdd, n24, n25, n26] <;> rfl) rfl ⟨(hb.block _ (lt_of_block r1)).trans r1, (hb.block _ (lt_of_block r4)).trans r4, r5.trans (hb.mono r5.size)⟩ trivial
    · intro us v hR hn ho K hK
      obtain ⟨n24, n27, -⟩ := hn
      have n24 : us 24 = _ := n24
      have n27 : us 27 = _ := n27
      clear ho
      obtain ⟨r1, r4, r5⟩ := id hR
      rw [if_pos (by rfl)]
      go_simp
      refine hK _ _ _ (by simp only [Act.put, List.setIfInBounds_toArray, List.set_cons_zero, List.set_cons_succ, Nat.reduceAdd, n24, n27] <;> rfl) ?_ hR trivial
      refine only_mk (v := v) ?_
      with_reducible rfl
    · intro us v hR hn ho K hK
      obtain ⟨n28, -⟩ := hn
      have n28 : us 28 = _ := n28
      clear ho
      obtain ⟨r1, r4, r5⟩ := id hR
      rw [if_pos (by rfl)]
      go_simp
      refine hK _ _ _ (by simp only [Act.put, List.setIfInBounds_toArray, List.set_cons_zero, List.set_cons_succ, Nat.reduceAdd, n28] <;> rfl) ?_ hR trivial
      refine only_mk (v := v) ?_
      with_reducible rfl
    · intro us v hR hn ho K hK
      obtain ⟨n29, -⟩ := hn
      have n29 : us 29 = _ := n29
      clear ho
      obtain ⟨r1, r4, r5⟩ := id hR
      rw [if_pos (by simp [Region.wanted, yielded, n29])]
      go_simp
      refine hK _ _ _ (by simp only [Act.put, List.setIfInBounds_toArray, List.set_cons_zero, List.set_cons_succ, Nat.reduceAdd, n29] <;> rfl) ?_ hR trivial
      refine only_mk (v := v) ?_
      with_reducible rfl
    · intro us v hR hn ho K hK
      obtain ⟨n29, n30, -⟩ := hn
      have n29 : us 29 = _ := n29
      have n30 : us 30 = _ := n30
      clear ho
      obtain ⟨r1, r4, r5⟩ := id hR
      rw [if_pos (by simp [Region.wanted, yielded, n29, n30])]
      go_simp
      refine hK _ _ _ (by simp only [Act.put, List.setIfInBounds_toArray, List.set_cons_zero, List.set_cons_succ, Nat.reduceAdd, n29, n30] <;> rfl) ?_ hR trivial
      refine only_mk (v := v) ?_
      with_reducible rfl
    · intro us v hR hn ho K hK
      obtain ⟨n29, n31, -⟩ := hn
      have n29 : us 29 = _ := n29
      have n31 : us 31 = _ := n31
      clear ho
      obtain ⟨r1, r4, r5⟩ := id hR
      rw [if_pos (by rfl)]
      go_simp
      refine hK _ _ _ (by simp only [Act.put, List.setIfInBounds_toArray, List.set_cons_zero, List.set_cons_succ, Nat.reduceAdd, n29, n31] <;> rfl) ?_ hR trivial
      refine only_mk (v := v) ?_
      with_reducible rfl
    · intro us v hR hn ho K hK
      obtain ⟨n32, -⟩ := hn
      have n32 : us 32 = _ := n32
      clear ho
      obtain ⟨r1, r4, r5⟩ := id hR
      rw [if_pos (by rfl)]
      go_simp
      refine hK _ _ _ (by simp only [Act.put, List.setIfInBounds_toArray, List.set_cons_zero, List.set_cons_succ, Nat.reduceAdd, n32] <;> rfl) ?_ hR trivial
      refine only_mk (v := v) ?_
      with_reducible rfl
    · intro us v hR hn ho K hK
      obtain ⟨n33, -⟩ := hn
      have n33 : us 33 = _ := n33
      clear ho
      obtain ⟨r1, r4, r5⟩ := id hR
      rw [if_pos (by simp [Region.wanted, yielded, n33])]
      go_simp
      refine hK _ _ _ (by simp only [Act.put, List.setIfInBounds_toArray, List.set_cons_zero, List.set_cons_succ, Nat.reduceAdd, n33] <;> rfl) ?_ hR trivial
      refine only_mk (v := v) ?_
      with_reducible rfl
    · intro us v hR hn ho K hK
      obtain ⟨n33, n34, -⟩ := hn
      have n33 : us 33 = _ := n33
      have n34 : us 34 = _ := n34
      clear ho
      obtain ⟨r1, r4, r5⟩ := id hR
      rw [if_pos (by simp [Region.wanted, yielded, n33, n34])]
      go_simp
      refine hK _ _ _ (by simp only [Act.put, List.setIfInBounds_toArray, List.set_cons_zero, List.set_cons_succ, Nat.reduceAdd, n33, n34] <;> rfl) ?_ hR trivial
      refine only_mk (v := v) ?_
      with_reducible rfl
    · intro us v hR hn ho K hK
      obtain ⟨n33, n35, -⟩ := hn
      have n33 : us 33 = _ := n33
      have n35 : us 35 = _ := n35
      clear ho
      obtain ⟨r1, r4, r5⟩ := id hR
      rw [if_pos (by rfl)]
      go_simp
      refine hK _ _ _ (by simp only [Act.put, List.setIfInBounds_toArray, List.set_cons_zero, List.set_cons_succ, Nat.reduceAdd, n33, n35] <;> rfl) ?_ hR trivial
      refine only_mk (v := v) ?_
      with_reducible rfl
    · intro us v hR hn ho K hK
      obtain ⟨n36, -⟩ := hn
      have n36 : us 36 = _ := n36
      clear ho
      obtain ⟨r1, r4, r5⟩ := id hR
      rw [if_pos (by rfl)]
      go_simp
      refine hK _ _ _ (by simp only [Act.put, List.setIfInBounds_toArray, List.set_cons_zero, List.set_cons_succ, Nat.reduceAdd, n36] <;> rfl) ?_ hR trivial
      refine only_mk (v := v) ?_
      with_reducible rfl
    · intro us v hR hn ho K hK
      obtain ⟨n37, -⟩ := hn
      have n37 : us 37 = _ := n37
      clear ho
      obtain ⟨r1, r4, r5⟩ := id hR
      have z0 := cell_of_block r1 0
      have z1 := cell_of_block r1 1
      have z2 := cell_of_block r1 2
      have z3 := cell_of_block r1 3
      have z4 := cell_of_block r1 4
      simp at z0 z1 z2 z3 z4
      rw [if_pos (by simp [Region.wanted, yielded, n37])]
      go_simp
      refine hK _ _ _ (by simp only [Act.put, List.setIfInBounds_toArray, List.set_cons_zero, List.set_cons_succ, Nat.reduceAdd, n37] <;> rfl) ?_ hR trivial
      refine only_mk (v := v) ?_
      with_reducible rfl
    · intro us v hR hn ho K hK
      obtain ⟨n37, n38, -⟩ := hn
      have n37 : us 37 = _ := n37
      have n38 : us 38 = _ := n38
      clear ho
      obtain ⟨r1, r4, r5⟩ := id hR
      rw [if_pos (by simp [Region.wanted, yielded, n37])]
      go_simp
      refine (right_is f0 true (by rfl) _).mono ?_
      rintro e v' ⟨rfl, hb⟩
      dsimp only
      exact hK _ _ _ (by simp only [Act.put, List.setIfInBounds_toArray, List.set_cons_zero, List.set_cons_succ, Nat.reduceAdd, n37, n38] <;> rfl) rfl ⟨(hb.block _ (lt_of_block r1)).trans r1, (hb.block _ (lt_of_block r4)).trans r4, r5.trans (hb.mono r5.size)⟩ trivial
    · intro us v hR hn ho K hK
      obtain ⟨n37, n39, -⟩ := hn
      have n37 : us 37 = _ := n37
      have n39 : us 39 = _ := n39
      clear ho
      obtain ⟨r1, r4, r5⟩ := id hR
      rw [if_pos (by rfl)]
      go_simp
      refine hK _ _ _ (by simp only [Act.put, List.setIfInBounds_toArray, List.set_cons_zero, List.set_cons_succ, Nat.reduceAdd, n37, n39] <;> rfl) ?_ hR trivial
      refine only_mk (v := v) ?_
      with_reducible rfl
    · intro us v hR hn ho K hK
      obtain ⟨n40, -⟩ := hn
      have n40 : us 40 = _ := n40
      clear ho
      obtain ⟨r1, r4, r5⟩ := id hR
      rw [if_pos (by rfl)]
      go_simp
      refine hK _ _ _ (by simp only [Act.put, List.setIfInBounds_toArray, List.set_cons_zero, List.set_cons_succ, Nat.reduceAdd, n40] <;> rfl) ?_ hR trivial
      refine only_mk (v := v) ?_
      with_reducible rfl
    · intro us v hR hn ho K hK
      obtain ⟨n41, -⟩ := hn
      have n41 : us 41 = _ := n41
      clear ho
      obtain ⟨r1, r4, r5⟩ := id hR
      rw [if_pos (by simp [Region.wanted, yielded, n41])]
      go_simp
      refine hK _ _ _ (by simp only [Act.put, List.setIfInBounds_toArray, List.set_cons_zero, List.set_cons_succ, Nat.reduceAdd, n41] <;> rfl) ?_ hR trivial
      refine only_mk (v := v) ?_
      with_reducible rfl
    · intro us v hR hn ho K hK
      obtain ⟨n41, n42, -⟩ := hn
      have n41 : us 41 = _ := n41
      have n42 : us 42 = _ := n42
      clear ho
      obtain ⟨r1, r4, r5⟩ := id hR
      rw [if_pos (by simp [Region.wanted, yielded, n41])]
      go_simp
      refine (right_is noFr false (by rfl) _).mono ?_
      rintro e v' ⟨rfl, hb⟩
      dsimp only
      exact hK _ _ _ (by simp only [Act.put, List.setIfInBounds_toArray, List.set_cons_zero, List.set_cons_succ, Nat.reduceAdd, n41, n42] <;> rfl) rfl ⟨(hb.block _ (lt_of_block r1)).trans r1, (hb.block _ (lt_of_block r4)).trans r4, r5.trans (hb.mono r5.size)⟩ trivial
    · intro us v hR hn ho K hK
      obtain ⟨n41, n43, -⟩ := hn
      have n41 : us 41 = _ := n41
      have n43 : us 43 = _ := n43
      clear ho
      obtain ⟨r1, r4, r5⟩ := id hR
      rw [if_pos (by simp [Region.wanted, yielded, n41, n43])]
      go_simp
      refine hK _ _ _ (by simp only [Act.put, List.setIfInBounds_toArray, List.set_cons_zero, List.set_cons_succ, Nat.reduceAdd, n41, n43] <;> rfl) ?_ hR trivial
      refine only_mk (v := v) ?_
      with_reducible rfl
    · intro us v hR hn ho K hK
      obtain ⟨n41, n44, -⟩ := hn
      have n41 : us 41 = _ := n41
      have n44 : us 44 = _ := n44
      clear ho
      obtain ⟨r1, r4, r5⟩ := id hR
      rw [if_pos (by rfl)]
      go_simp
      refine hK _ _ _ (by simp only [Act.put, List.setIfInBounds_toArray, List.set_cons_zero, List.set_cons_succ, Nat.reduceAdd, n41, n44] <;> rfl) ?_ hR trivial
      refine only_mk (v := v) ?_
      with_reducible rfl
    · intro us v hR hn ho K hK
      obtain ⟨n45, -⟩ := hn
      have n45 : us 45 = _ := n45
      clear ho
      obtain ⟨r1, r4, r5⟩ := id hR
      rw [if_pos (by rfl)]
      go_simp
      refine hK _ _ _ (by simp only [Act.put, List.setIfInBounds_toArray, List.set_cons_zero, List.set_cons_succ, Nat.reduceAdd, n45] <;> rfl) ?_ hR trivial
      refine only_mk (v := v) ?_
      with_reducible rfl
    · intro us v hR hn ho K hK
      obtain ⟨n46, -⟩ := hn
      have n46 : us 46 = _ := n46
      clear ho
      obtain ⟨r1, r4, r5⟩ := id hR
      have z0 := cell_of_block r1 0
      have z1 := cell_of_block r1 1
      have z2 := cell_of_block r1 2
      have z3 := cell_of_block r1 3
      have z4 := cell_of_block r1 4
      simp at z0 z1 z2 z3 z4
      rw [if_pos (by simp [Region.wanted, yielded, n46])]
      go_simp
      refine hK _ _ _ (by simp only [Act.put, List.setIfInBounds_toArray, List.set_cons_zero, List.set_cons_succ, Nat.reduceAdd, n46] <;> rfl) ?_ hR trivial
      refine only_mk (v := v) ?_
      with_reducible rfl
    · intro us v hR hn ho K hK
      obtain ⟨n46, -⟩ := hn
      have n46 : us 46 = _ := n46
      clear ho
      obtain ⟨r1, r4, r5⟩ := id hR
      rw [if_pos (by simp [Region.wanted, yielded, n46])]
      go_simp
      refine hK _ _ _ (by simp only [Act.put, List.setIfInBounds_toArray, List.set_cons_zero, List.set_cons_succ, Nat.reduceAdd, n46] <;> rfl) ?_ hR trivial
      refine only_mk (v := v) ?_
      with_reducible rfl
    · intro us v hR hn ho K hK
      obtain ⟨n46, n47, n48, -⟩ := hn
      have n46 : us 46 = _ := n46
      have n47 : us 47 = _ := n47
      have n48 : us 48 = _ := n48
      clear ho
      obtain ⟨r1, r4, r5⟩ := id hR
      rw [if_pos (by simp [Region.wanted, yielded, n46])]
      go_simp
      refine (Same_is f0 noFr false (by rfl) _).mono ?_
      rintro e v' ⟨rfl, hb⟩
      dsimp only
      exact hK _ _ _ (by simp only [Act.put, List.setIfInBounds_toArray, List.set_cons_zero, List.set_cons_succ, Nat.reduceAdd, n46, n47, n48] <;> rfl) rfl ⟨(hb.block _ (lt_of_block r1)).trans r1, (hb.block _ (lt_of_block r4)).trans r4, r5.trans (hb.mono r5.size)⟩ trivial
    · intro us v hR hn ho K hK
      obtain ⟨n46, n49, -⟩ := hn
      have n46 : us 46 = _ := n46
      have n49 : us 49 = _ := n49
      clear ho
      obtain ⟨r1, r4, r5⟩ := id hR
      rw [if_pos (by simp [Region.wanted, yielded, n46, n49])]
      go_simp
      refine hK _ _ _ (by simp only [Act.put, List.setIfInBounds_toArray, List.set_cons_zero, List.set_cons_succ, Nat.reduceAdd, n46, n49] <;> rfl) ?_ hR trivial
      refine only_mk (v := v) ?_
      with_reducible rfl
    · intro us v hR hn ho K hK
      obtain ⟨n46, n50, -⟩ := hn
      have n46 : us 46 = _ := n46
      have n50 : us 50 = _ := n50
      clear ho
      obtain ⟨r1, r4, r5⟩ := id hR
      rw [if_pos (by rfl)]
      go_simp
      refine hK _ _ _ (by simp only [Act.put, List.setIfInBounds_toArray, List.set_cons_zero, List.set_cons_succ, Nat.reduceAdd, n46, n50] <;> rfl) ?_ hR trivial
      refine only_mk (v := v) ?_
      with_reducible rfl
    · intro us v hR hn ho K hK
      obtain ⟨n51, -⟩ := hn
      have n51 : us 51 = _ := n51
      clear ho
      obtain ⟨r1, r4, r5⟩ := id hR
      rw [if_pos (by rfl)]
      go_simp
      refine hK _ _ _ (by simp only [Act.put, List.setIfInBounds_toArray, List.set_cons_zero, List.set_cons_succ, Nat.reduceAdd, n51] <;> rfl) ?_ hR trivial
      refine only_mk (v := v) ?_
      with_reducible rfl
  case hla =>
    intro us v hR hl
    obtain ⟨n0, n1, n2, n3, n4, n5, n6, n7, n8, n9, n11, n12, n13, n14, n15, n16, n17, n18, n19, n20, n21, n22, n23, n24, n25, n26, n27, n28, n29, n30, n31, n32, n33, n34, n35, n36, n37, n38, n39, n40, n41, n42, n43, n44, n45, n46, n47, n48, n49, n50, n51, n52, -⟩ := need_last hl [0, 1, 2, 3, 4, 5, 6, 7, 8, 9, 11, 12, 13, 14, 15, 16, 17, 18, 19, 20, 21, 22, 23, 24, 25, 26, 27, 28, 29, 30, 31, 32, 33, 34, 35, 36, 37, 38, 39, 40, 41, 42, 43, 44, 45, 46, 47, 48, 49, 50, 51, 52] (by kernel_rfl)
    have n0 : us 0 = _ := n0
    have n1 : us 1 = _ := n1
    have n2 : us 2 = _ := n2
    have n3 : us 3 = _ := n3
    have n4 : us 4 = _ := n4
    have n5 : us 5 = _ := n5
    have n6 : us 6 = _ := n6
    have n7 : us 7 = _ := n7
    have n8 : us 8 = _ := n8
    have n9 : us 9 = _ := n9
    have n11 : us 11 = _ := n11
    have n12 : us 12 = _ := n12
    have n13 : us 13 = _ := n13
    have n14 : us 14 = _ := n14
    have n15 : us 15 = _ := n15
    have n16 : us 16 = _ := n16
    have n17 : us 17 = _ := n17
    have n18 : us 18 = _ := n18
    have n19 : us 19 = _ := n19
    have n20 : us 20 = _ := n20
    have n21 : us 21 = _ := n21
    have n22 : us 22 = _ := n22
    have n23 : us 23 = _ := n23
    have n24 : us 24 = _ := n24
    have n25 : us 25 = _ := n25
    have n26 : us 26 = _ := n26
    have n27 : us 27 = _ := n27
    have n28 : us 28 = _ := n28
    have n29 : us 29 = _ := n29
    have n30 : us 30 = _ := n30
    have n31 : us 31 = _ := n31
    have n32 : us 32 = _ := n32
    have n33 : us 33 = _ := n33
    have n34 : us 34 = _ := n34
    have n35 : us 35 = _ := n35
    have n36 : us 36 = _ := n36
    have n37 : us 37 = _ := n37
    have n38 : us 38 = _ := n38
    have n39 : us 39 = _ := n39
    have n40 : us 40 = _ := n40
    have n41 : us 41 = _ := n41
    have n42 : us 42 = _ := n42
    have n43 : us 43 = _ := n43
    have n44 : us 44 = _ := n44
    have n45 : us 45 = _ := n45
    have n46 : us 46 = _ := n46
    have n47 : us 47 = _ := n47
    have n48 : us 48 = _ := n48
    have n49 : us 49 = _ := n49
    have n50 : us 50 = _ := n50
    have n51 : us 51 = _ := n51
    have n52 : us 52 = _ := n52
    obtain ⟨r1, r4, r5⟩ := id hR
    simp only [n0, n1, n2, n3, n4, n5, n6, n7, n8, n9, n11, n12, n13, n14, n15, n16, n17, n18, n19, n20, n21, n22, n23, n24, n25, n26, n27, n28, n29, n30, n31, n32, n33, n34, n35, n36, n37, n38, n39, n40, n41, n42, n43, n44, n45, n46, n47, n48, n49, n50, n51, n52]
    clear hl n0 n1 n2 n3 n4 n5 n6 n7 n8 n9 n11 n12 n13 n14 n15 n16 n17 n18 n19 n20 n21 n22 n23 n24 n25 n26 n27 n28 n29 n30 n31 n32 n33 n34 n35 n36 n37 n38 n39 n40 n41 n42 n43 n44 n45 n46 n47 n48 n49 n50 n51 n52
    go_wp2_with fail
    go_ret
    exact ⟨rfl, r5⟩
end Go.Proofs.YtffejniibljjeaaDoor.Frame
