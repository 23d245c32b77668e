/- Layer 6: the walk of FrameGets. Conditions: the table of layer 5 and the variable of package errors are laid; numbers without sign. -/
import Derived.Test.YtffejniibljjeaaDoorFrameZ
namespace Go.Proofs.YtffejniibljjeaaDoor.Frame
set_option linter.unusedSimpArgs false
set_option linter.unusedVariables false
open Go.RowKit
open Go.Proofs.YtffejniibljjeaaDoor
open Go.Proofs.YtffejniibljjeaaDoor.Link (Fr right_is right_any frBox bcell ret_bool empty_size)

theorem refGet_any (s : ByteArray) (w : World) (hm : s.size ≤ maxLen) : Calls Tryd.prog 17 #[.string s] w (Ans w s.data.toList) := by
  by_cases h1 : s.size < 27
  · exact ref_short h1
  by_cases h2 : s.data.toList.getD 0 0 = 78
  · by_cases h3 : s.data.toList.getD 1 0 = 1
    · exact ref_rest (by omega) hm h2 h3
    · exact ref_version (by omega) h2 h3
  · exact ref_magic (by omega) h2
theorem refGet_is (s : ByteArray) (f : Fr) (a : Nat) (n : Int) (w : World) (hm : s.size ≤ maxLen) (hf : f = get s.data.toList) (ha : a = (why s.data.toList).1) (hn : n = (why s.data.toList).2) :
    Calls Tryd.prog 17 #[.string s] w fun e w' => e = .returned (.tuple #[f.val, .int .i64 (a : Int), .int .i64 n]) ∧ Below w.heap.size w w' := by
  subst hf ha hn; exact refGet_any s w hm
set_option maxRecDepth 100000 in
set_option maxHeartbeats 4000000 in
theorem gets_walk (s : ByteArray) (hsm : s.size ≤ maxLen) (w : World) (ht : TabAt w) (hg : ErrAt w) :
    Calls Tryd.prog 4 #[.string s] w fun e w' => e = .returned (.bool true) ∧ Below w.heap.size w w' := by
  have hgp := hg.pos
  have htp := ht.pos
  have hB0 : Below w.heap.size w w := Below.refl _ _
  have ht0 := ht
  have hg0 := hg
  have hsm' := hsm
  unfold maxLen at hsm'
  by_cases hs300 : 300 < s.size
  · have d2 : decide (300 < (s.size : Int)) = true := by simp; omega
    go_enter Tryd.func4, Tryd.ntmps4
    go_wp2_with fail
    refine (awake_any _ ht0 hg0).mono ?_
    rintro e w1 ⟨rfl, hb1⟩
    have hB1 : Below w.heap.size w w1 := hB0.trans (hb1.mono hB0.size)
    have ht1 := ht.below hB1 htp
    have hg1 := hg.below hB1 hgp
    go_wp2_with fail
    refine (awake_any _ ht1 hg1).mono ?_
    rintro e w2 ⟨rfl, hb2⟩
    have hB2 : Below w.heap.size w w2 := hB1.trans (hb2.mono hB1.size)
    have ht2 := ht.below hB2 htp
    have hg2 := hg.below hB2 hgp
    go_wp2_with fail
    go_ret
    exact ⟨rfl, hB2⟩
  have d2 : decide (300 < (s.size : Int)) = false := by simp; omega
  obtain ⟨a, ha⟩ : ∃ a, a = (why s.data.toList).1 := ⟨_, rfl⟩
  obtain ⟨no, hno⟩ : ∃ n, n = (why s.data.toList).2 := ⟨_, rfl⟩
  obtain ⟨k, ep, sq, ak, b, hf⟩ : ∃ k ep sq ak b, (⟨k, ep, sq, ak, b⟩ : Fr) = get s.data.toList := ⟨_, _, _, _, _, rfl⟩
  have HA := Lib.hid ha
  have HNO := Lib.hid hno
  have HF := Lib.hid hf
  have hq : (no == no) = true := beq_self_eq_true _
  clear ha hno hf
  go_enter Tryd.func4, Tryd.ntmps4
  go_wp2_with fail
  refine (awake_any _ ht0 hg0).mono ?_
  rintro e w1 ⟨rfl, hb1⟩
  have hB1 : Below w.heap.size w w1 := hB0.trans (hb1.mono hB0.size)
  have ht1 := ht.below hB1 htp
  have hg1 := hg.below hB1 hgp
  go_wp2_with fail
  refine (Get_is s ⟨k, ep, sq, ak, b⟩ no _ hsm HF.out HNO.out ht1 hg1).mono ?_
  rintro e w2 ⟨rfl, hb2⟩
  have hB2 : Below w.heap.size w w2 := hB1.trans (hb2.mono hB1.size)
  have ht2 := ht.below hB2 htp
  have hg2 := hg.below hB2 hgp
  have hal2 : Below w2.heap.size w2 (w2.alloc (.cells #[.int .i64 k, .int .i64 ep, .int .u64 sq, .int .u64 ak, .string b] 25)) := (Below.refl _ _).alloc (Nat.le_refl _) _
  have hB2' : Below w.heap.size w (w2.alloc (.cells #[.int .i64 k, .int .i64 ep, .int .u64 sq, .int .u64 ak, .string b] 25)) := hB2.trans (hal2.mono hB2.size)
  have hF2 : (w2.alloc (.cells #[.int .i64 k, .int .i64 ep, .int .u64 sq, .int .u64 ak, .string b] 25)).heap[w2.heap.size]? = some (.cells #[.int .i64 k, .int .i64 ep, .int .u64 sq, .int .u64 ak, .string b] 25 (0, 0)) := heap_alloc_new w2 _
  unfold Link.Fr.val
  go_wp2_with fail
  refine (Why_is s a no _ hsm HA.out HNO.out (ht.below hB2' htp) (hg.below hB2' hgp)).mono ?_
  rintro e w3 ⟨rfl, hb3⟩
  have hB3 : Below w.heap.size w w3 := hB2'.trans (hb3.mono hB2'.size)
  have hF3 := (hb3.block _ (lt_of_block hF2)).trans hF2
  go_wp2_with fail
  refine (refGet_is s ⟨k, ep, sq, ak, b⟩ a no _ hsm HF.out HA.out HNO.out).mono ?_
  rintro e w4 ⟨rfl, hb4⟩
  have hB4 : Below w.heap.size w w4 := hB3.trans (hb4.mono hB3.size)
  have hF4 := (hb4.block _ (lt_of_block hF3)).trans hF3
  have f0 := cell_of_block hF4 0
  have f1 := cell_of_block hF4 1
  have f2 := cell_of_block hF4 2
  have f3 := cell_of_block hF4 3
  have f4 := cell_of_block hF4 4
  simp at f0 f1 f2 f3 f4
  have hlt4 := lt_of_block hF4
  unfold Link.Fr.val
  go_wp2_with fail
  go_ret
  exact ⟨rfl, hB4.alloc hB4.size _⟩
end Go.Proofs.YtffejniibljjeaaDoor.Frame
