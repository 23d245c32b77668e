/- Layer 8: what each method of a net does to it in memory. Conditions: the net lies (NetIs). -/
import Derived.Test.YtihhflajkohibaaGreatDoorNetMap
import Derived.Test.YtihhflajkohibaaGreatDoorFlow
import Derived.StillTailTactics
import Derived.Deep.QuietTactic
import Derived.Deep.RegionWith
import Derived.Deep.RegionHeld3
import Derived.Outline
import Derived.Carry
namespace Go.Proofs.YtihhflajkohibaaGreatDoor.Net
set_option linter.unusedSimpArgs false
set_option linter.unusedVariables false
set_option maxRecDepth 100000
open Go.RowKit
section
variable {w : World} {p : Nat} {F : List Nat} {s : NS}
def NewSaid (n room : Int) (w : World) (e : Ending) (w' : World) : Prop := ∃ p F, e = .returned (.pointer (some ⟨p, 0, none⟩)) ∧ NetIs w' p F (new n room) ∧ (∀ k, k ∈ F → w.heap.size ≤ k) ∧ Below w.heap.size w w'
theorem new_lies {v : World} {n room : Int} {p r : Nat} (hs : v.heap[p]? = some (.cells #[.int .i64 ((new n room).n : Int), .int .i64 room, .map (some r)] 113 (0, 0))) (hm : v.heap[r]? = some (.map #[] 0)) (hpr : p ≠ r) : Lies v p r room (new n room) [] :=
  ⟨hs, ⟨#[], 0, hm, rfl, MapKept.stamped_empty 0⟩, by simp [new, clampN, RingS.clamp], new_ok n room, by simp, by simp, hpr, by simp, by simp, fun _ _ _ => rfl⟩
set_option maxHeartbeats 400000 in
theorem new_any (n room : Int) (w : World) :
    Calls Tryz.prog 30 #[.int .i64 n, .int .i64 room] w (NewSaid n room w) := by
  have hn : (((new n room).n : Nat) : Int) = min (max n 0) 64 := by simp only [new, clampN]; omega
  have fin : ∀ (N : Int), N = min (max n 0) 64 → NetIs ((w.alloc (.map #[] 0)).alloc (.cells #[.int .i64 N, .int .i64 room, .map (some w.heap.size)] 113)) (w.heap.size + 1) (foot (w.heap.size + 1) w.heap.size []) (new n room) := by
    intro N hN
    rw [hN, ← hn]
    refine ⟨_, room, [], rfl, new_lies ?_ ?_ (by omega)⟩
    · exact heap_new_at _ _ _ (by simp)
    · rw [Below.heap_alloc _ _ _ (by simp)]; exact heap_alloc_new w _
  have FIN := Lib.hid fin
  clear fin hn
  have hmm := @run_makeMap Tryz.prog
  go_enter Tryz.func30, Tryz.ntmps30
  go_wp2
  all_goals
    go_ret
    exact ⟨_, _, rfl, FIN.out _ (by omega), by simp [foot], ((Below.refl _ _).alloc (Nat.le_refl _) _).alloc (by simp) _⟩
set_option maxHeartbeats 1000000 in
theorem row_no (h : NetIs w p F s) (a b : Int) (hg : s.good a b = false) :
    Calls Tryz.prog 66 #[.pointer (some ⟨p, 0, none⟩), .int .i64 a, .int .i64 b] w fun e w' => e = .returned (.pointer none) ∧ Below w.heap.size w w' := by
  obtain ⟨r, room, es, rfl, hl⟩ := h
  have hpl := lt_of_block hl.st
  have c0 := cell_of_block hl.st 0
  simp at c0
  have hbl : Below w.heap.size w (w.alloc (.cells #[.int .i64 a, .int .i64 b] 143)) := (Below.refl _ _).alloc (Nat.le_refl _) _
  have HB := Lib.hid hbl
  clear hbl
  have hcase : a < 0 ∨ (0 ≤ a ∧ b < 0) ∨ (0 ≤ a ∧ 0 ≤ b ∧ (s.n : Int) ≤ a) ∨ (0 ≤ a ∧ 0 ≤ b ∧ a < (s.n : Int) ∧ (s.n : Int) ≤ b) ∨ (0 ≤ a ∧ 0 ≤ b ∧ a < (s.n : Int) ∧ b < (s.n : Int) ∧ a = b) := by
    simp only [NS.good, decide_eq_false_iff_not] at hg
    omega
  clear hg hl
  rcases hcase with h1 | ⟨h1, h2⟩ | ⟨h1, h2, h3⟩ | ⟨h1, h2, h3, h4⟩ | ⟨h1, h2, h3, h4, rfl⟩
  · have d1 : decide (a < 0) = true := by simpa using h1
    go_enter Tryz.func66, Tryz.ntmps66
    go_wp2_with fail
    go_ret
    exact ⟨rfl, HB.out⟩
  · have d1 : decide (a < 0) = false := by simp; omega
    have d2 : decide (b < 0) = true := by simpa using h2
    go_enter Tryz.func66, Tryz.ntmps66
    go_wp2_with fail
    go_ret
    exact ⟨rfl, HB.out⟩
  · have d1 : decide (a < 0) = false := by simp; omega
    have d2 : decide (b < 0) = false := by simp; omega
    have d3 : decide ((s.n : Int) ≤ a) = true := by simpa using h3
    go_enter Tryz.func66, Tryz.ntmps66
    go_wp2_with fail
    go_ret
    exact ⟨rfl, HB.out⟩
  · have d1 : decide (a < 0) = false := by simp; omega
    have d2 : decide (b < 0) = false := by simp; omega
    have d3 : decide ((s.n : Int) ≤ a) = false := by simp; omega
    have d4 : decide ((s.n : Int) ≤ b) = true := by simpa using h4
    go_enter Tryz.func66, Tryz.ntmps66
    go_wp2_with fail
    go_ret
    exact ⟨rfl, HB.out⟩
  · have d1 : decide (a < 0) = false := by simp; omega
    have d3 : decide ((s.n : Int) ≤ a) = false := by simp; omega
    go_enter Tryz.func66, Tryz.ntmps66
    go_wp2_with fail
    go_ret
    exact ⟨rfl, HB.out⟩
def RowSaid (w : World) (p : Nat) (F : List Nat) (s : NS) (a b : Int) (e : Ending) (w' : World) : Prop := ∃ P Q F', e = .returned (.pointer (some ⟨P, 0, none⟩)) ∧ At w' p F' s a b P Q ∧ Turns F F' w w'
set_option maxHeartbeats 4000000 in
theorem row_yes (h : NetIs w p F s) (a b : Int) (hg : s.good a b = true) :
    Calls Tryz.prog 66 #[.pointer (some ⟨p, 0, none⟩), .int .i64 a, .int .i64 b] w (RowSaid w p F s a b) := by
  obtain ⟨r, room, es, rfl, hl⟩ := h
  have hpl := lt_of_block hl.st
  have c0 := cell_of_block hl.st 0
  simp at c0
  have hb1 : Below w.heap.size w (w.alloc (.cells #[.int .i64 a, .int .i64 b] 143)) := (Below.refl _ _).alloc (Nat.le_refl _) _
  have HB1 := Lib.hid hb1
  have HL1 := Lib.hid (hl.keep (w' := w.alloc (.cells #[.int .i64 a, .int .i64 b] 143)) (fun k hk => hb1.block k (hl.lt hk)))
  have HX1 := Lib.hid (show (w.alloc (.cells #[.int .i64 a, .int .i64 b] 143)).heap[w.heap.size]? = some (.cells #[.int .i64 a, .int .i64 b] 143 (0, 0)) from heap_alloc_new w _)
  have hgg : 0 ≤ a ∧ a < (s.n : Int) ∧ 0 ≤ b ∧ b < (s.n : Int) ∧ a ≠ b := by simpa only [NS.good, decide_eq_true_eq] using hg
  obtain ⟨g1, g2, g3, g4, g5⟩ := hgg
  have d1 : decide (a < 0) = false := by simp; omega
  have d2 : decide (b < 0) = false := by simp; omega
  have d3 : decide ((s.n : Int) ≤ a) = false := by simp; omega
  have d4 : decide ((s.n : Int) ≤ b) = false := by simp; omega
  have d5 : (a == b) = false := beq_eq_false_iff_ne.2 g5
  have HL := Lib.hid hl
  have HG := Lib.hid hg
  have hlook := hl.look hg
  have HLOOK := Lib.hid hlook
  clear hb1 hg hl hlook g5
  go_enter Tryz.func66, Tryz.ntmps66
  go_wp2_with fail
  rcases HLOOK.out with ⟨i, e, hi, he1, he2, _⟩ | ⟨hno, _⟩
  · have HI := Lib.hid hi
    subst he1
    subst he2
    clear hi
    refine' wp_flow [only 0 _, only 1 _, only 2 _, only 3 (.map (some r)), only 4 (.agg #[.int .i64 e.a, .int .i64 e.b]), only 5 (.pointer (some ⟨e.p, 0, none⟩)), only 6 _] (fun v => Lies v p r room s es ∧ v.heap[w.heap.size]? = some (.cells #[.int .i64 e.a, .int .i64 e.b] 143 (0, 0)) ∧ Below w.heap.size w v) [[], [0], [1], [2], [], [3, 4], [5]] [[], [], [], [], [], [], []] [[], [], [], [], [], [], []] [[], [], [], [], [], [], []] [] [0, 1, 3, 7, 0, 31, 63] _ (fun us => ?hfr) (by kernel_rfl) (by kernel_rfl) (by kernel_rfl) ⟨only_still _, only_still _, only_still _, only_still _, only_still _, only_still _, only_still _, trivial⟩ (⟨HL1.out.keep (fun _ _ => rfl), HX1.out, below_drewN HB1.out 1⟩) (by simp) (trivial) ?hst ?hla
    case hfr => (simp only [List.cons_append, List.nil_append, putAll, Act.put, List.setIfInBounds_toArray, List.set_cons_zero, List.set_cons_succ, Nat.reduceAdd]; rfl)
    case hst =>
      refine ⟨?_, ?_, ?_, ?_, ?_, ?_, ?_, trivial⟩
      · intro us v hR hn ho K hK
        clear ho
        obtain ⟨r1, r2, r3⟩ := id hR; have y2 := cell_of_block r1.st 2; have x0 := cell_of_block r2 0; have x1 := cell_of_block r2 1; simp at y2 x0 x1
        rw [if_pos (by rfl)]
        go_simp
        refine hK _ _ _ (by simp only [Act.put, List.setIfInBounds_toArray, List.set_cons_zero, List.set_cons_succ, Nat.reduceAdd] <;> rfl) ?_ hR trivial
        refine only_mk (v := v) ?_
        with_reducible rfl
      · intro us v hR hn ho K hK
        obtain ⟨n0, -⟩ := hn
        have n0 : us 0 = _ := n0
        clear ho
        obtain ⟨r1, r2, r3⟩ := id hR; have y2 := cell_of_block r1.st 2; have x0 := cell_of_block r2 0; have x1 := cell_of_block r2 1; simp at y2 x0 x1
        rw [if_pos (by rfl)]
        go_simp
        refine hK _ _ _ (by simp only [Act.put, List.setIfInBounds_toArray, List.set_cons_zero, List.set_cons_succ, Nat.reduceAdd, n0] <;> rfl) ?_ hR trivial
        refine only_mk (v := v) ?_
        with_reducible rfl
      · intro us v hR hn ho K hK
        obtain ⟨n1, -⟩ := hn
        have n1 : us 1 = _ := n1
        clear ho
        obtain ⟨r1, r2, r3⟩ := id hR; have y2 := cell_of_block r1.st 2; have x0 := cell_of_block r2 0; have x1 := cell_of_block r2 1; simp at y2 x0 x1
        rw [if_pos (by rfl)]
        go_simp
        refine hK _ _ _ (by simp only [Act.put, List.setIfInBounds_toArray, List.set_cons_zero, List.set_cons_succ, Nat.reduceAdd, n1] <;> rfl) ?_ hR trivial
        refine only_mk (v := v) ?_
        with_reducible rfl
      · intro us v hR hn ho K hK
        obtain ⟨n2, -⟩ := hn
        have n2 : us 2 = _ := n2
        clear ho
        obtain ⟨r1, r2, r3⟩ := id hR; have y2 := cell_of_block r1.st 2; have x0 := cell_of_block r2 0; have x1 := cell_of_block r2 1; simp at y2 x0 x1
        rw [if_pos (by rfl)]
        go_simp
        refine hK _ _ _ (by simp only [Act.put, List.setIfInBounds_toArray, List.set_cons_zero, List.set_cons_succ, Nat.reduceAdd, n2] <;> rfl) ?_ hR trivial
        refine only_mk (v := v) ?_
        with_reducible rfl
      · intro us v hR hn ho K hK
        clear ho
        obtain ⟨r1, r2, r3⟩ := id hR; have y2 := cell_of_block r1.st 2; have x0 := cell_of_block r2 0; have x1 := cell_of_block r2 1; simp at y2 x0 x1
        rw [if_pos (by rfl)]
        go_simp
        refine hK _ _ _ (by simp only [Act.put, List.setIfInBounds_toArray, List.set_cons_zero, List.set_cons_succ, Nat.reduceAdd] <;> rfl) ?_ hR trivial
        refine only_mk (v := v) ?_
        with_reducible rfl
      · intro us v hR hn ho K hK
        obtain ⟨n3, n4, -⟩ := hn
        have n3 : us 3 = _ := n3
        have n4 : us 4 = _ := n4
        clear ho
        obtain ⟨r1, r2, r3⟩ := id hR; have y2 := cell_of_block r1.st 2; have x0 := cell_of_block r2 0; have x1 := cell_of_block r2 1; simp at y2 x0 x1
        have hrun := r1.look_at HI.out
        rw [if_pos (by rfl)]
        go_simp
        refine hK _ _ _ (by simp only [Act.put, List.setIfInBounds_toArray, List.set_cons_zero, List.set_cons_succ, Nat.reduceAdd, n3, n4] <;> rfl) ?_ hR trivial
        refine only_mk (v := v) ?_
        with_reducible rfl
      · intro us v hR hn ho K hK
        obtain ⟨n5, -⟩ := hn
        have n5 : us 5 = _ := n5
        clear ho
        obtain ⟨r1, r2, r3⟩ := id hR; have y2 := cell_of_block r1.st 2; have x0 := cell_of_block r2 0; have x1 := cell_of_block r2 1; simp at y2 x0 x1
        rw [if_pos (by rfl)]
        go_simp
        refine hK _ _ _ (by simp only [Act.put, List.setIfInBounds_toArray, List.set_cons_zero, List.set_cons_succ, Nat.reduceAdd, n5] <;> rfl) ?_ hR trivial
        refine only_mk (v := v) ?_
        with_reducible rfl
    case hla =>
      intro us v hR hl
      obtain ⟨n0, n1, n2, n3, n4, n5, n6, -⟩ := need_last hl [0, 1, 2, 3, 4, 5, 6] (by kernel_rfl)
      have n0 : us 0 = _ := n0
      have n1 : us 1 = _ := n1
      have n2 : us 2 = _ := n2
      have n3 : us 3 = _ := n3
      have n4 : us 4 = _ := n4
      have n5 : us 5 = _ := n5
      have n6 : us 6 = _ := n6
      obtain ⟨r1, r2, r3⟩ := id hR; have y2 := cell_of_block r1.st 2; have x0 := cell_of_block r2 0; have x1 := cell_of_block r2 1; simp at y2 x0 x1
      simp only [n0, n1, n2, n3, n4, n5, n6]
      clear hl n0 n1 n2 n3 n4 n5 n6
      have HR4 := Lib.hid hR
      clear hR
      go_wp2_with fail
      refine' wp_flow [only 0 _, only 1 _, only 2 _, only 3 (.map (some r)), only 4 (.agg #[.int .i64 e.a, .int .i64 e.b]), only 5 (.pointer (some ⟨e.p, 0, none⟩)), only 6 _] (fun v => Lies v p r room s es ∧ v.heap[w.heap.size]? = some (.cells #[.int .i64 e.a, .int .i64 e.b] 143 (0, 0)) ∧ Below w.heap.size w v) [[], [0], [1], [2], [], [3, 4], [5]] [[], [], [], [], [], [], []] [[], [], [], [], [], [], []] [[], [], [], [], [], [], []] [] [0, 1, 3, 7, 0, 31, 63] _ (fun us => ?hfr) (by kernel_rfl) (by kernel_rfl) (by kernel_rfl) ⟨only_still _, only_still _, only_still _, only_still _, only_still _, only_still _, only_still _, trivial⟩ (⟨HR4.out.1.keep (fun _ _ => rfl), HR4.out.2.1, below_drewN HR4.out.2.2 1⟩) (by simp) (trivial) ?hst ?hla
      case hfr => (simp only [List.cons_append, List.nil_append, putAll, Act.put, List.setIfInBounds_toArray, List.set_cons_zero, List.set_cons_succ, Nat.reduceAdd]; rfl)
      case hst =>
        refine ⟨?_, ?_, ?_, ?_, ?_, ?_, ?_, trivial⟩
        · intro us v hR hn ho K hK
          clear ho
          obtain ⟨r1, r2, r3⟩ := id hR; have y2 := cell_of_block r1.st 2; have x0 := cell_of_block r2 0; have x1 := cell_of_block r2 1; simp at y2 x0 x1
          rw [if_pos (by rfl)]
          go_simp
          refine hK _ _ _ (by simp only [Act.put, List.setIfInBounds_toArray, List.set_cons_zero, List.set_cons_succ, Nat.reduceAdd] <;> rfl) ?_ hR trivial
          refine only_mk (v := v) ?_
          with_reducible rfl
        · intro us v hR hn ho K hK
          obtain ⟨n0, -⟩ := hn
          have n0 : us 0 = _ := n0
          clear ho
          obtain ⟨r1, r2, r3⟩ := id hR; have y2 := cell_of_block r1.st 2; have x0 := cell_of_block r2 0; have x1 := cell_of_block r2 1; simp at y2 x0 x1
          rw [if_pos (by rfl)]
          go_simp
          refine hK _ _ _ (by simp only [Act.put, List.setIfInBounds_toArray, List.set_cons_zero, List.set_cons_succ, Nat.reduceAdd, n0] <;> rfl) ?_ hR trivial
          refine only_mk (v := v) ?_
          with_reducible rfl
        · intro us v hR hn ho K hK
          obtain ⟨n1, -⟩ := hn
          have n1 : us 1 = _ := n1
          clear ho
          obtain ⟨r1, r2, r3⟩ := id hR; have y2 := cell_of_block r1.st 2; have x0 := cell_of_block r2 0; have x1 := cell_of_block r2 1; simp at y2 x0 x1
          rw [if_pos (by rfl)]
          go_simp
          refine hK _ _ _ (by simp only [Act.put, List.setIfInBounds_toArray, List.set_cons_zero, List.set_cons_succ, Nat.reduceAdd, n1] <;> rfl) ?_ hR trivial
          refine only_mk (v := v) ?_
          with_reducible rfl
        · intro us v hR hn ho K hK
          obtain ⟨n2, -⟩ := hn
          have n2 : us 2 = _ := n2
          clear ho
          obtain ⟨r1, r2, r3⟩ := id hR; have y2 := cell_of_block r1.st 2; have x0 := cell_of_block r2 0; have x1 := cell_of_block r2 1; simp at y2 x0 x1
          rw [if_pos (by rfl)]
          go_simp
          refine hK _ _ _ (by simp only [Act.put, List.setIfInBounds_toArray, List.set_cons_zero, List.set_cons_succ, Nat.reduceAdd, n2] <;> rfl) ?_ hR trivial
          refine only_mk (v := v) ?_
          with_reducible rfl
        · intro us v hR hn ho K hK
          clear ho
          obtain ⟨r1, r2, r3⟩ := id hR; have y2 := cell_of_block r1.st 2; have x0 := cell_of_block r2 0; have x1 := cell_of_block r2 1; simp at y2 x0 x1
          rw [if_pos (by rfl)]
          go_simp
          refine hK _ _ _ (by simp only [Act.put, List.setIfInBounds_toArray, List.set_cons_zero, List.set_cons_succ, Nat.reduceAdd] <;> rfl) ?_ hR trivial
          refine only_mk (v := v) ?_
          with_reducible rfl
        · intro us v hR hn ho K hK
          obtain ⟨n3, n4, -⟩ := hn
          have n3 : us 3 = _ := n3
          have n4 : us 4 = _ := n4
          clear ho
          obtain ⟨r1, r2, r3⟩ := id hR; have y2 := cell_of_block r1.st 2; have x0 := cell_of_block r2 0; have x1 := cell_of_block r2 1; simp at y2 x0 x1
          have hrun := r1.look_at HI.out
          rw [if_pos (by rfl)]
          go_simp
          refine hK _ _ _ (by simp only [Act.put, List.setIfInBounds_toArray, List.set_cons_zero, List.set_cons_succ, Nat.reduceAdd, n3, n4] <;> rfl) ?_ hR trivial
          refine only_mk (v := v) ?_
          with_reducible rfl
        · intro us v hR hn ho K hK
          obtain ⟨n5, -⟩ := hn
          have n5 : us 5 = _ := n5
          clear ho
          obtain ⟨r1, r2, r3⟩ := id hR; have y2 := cell_of_block r1.st 2; have x0 := cell_of_block r2 0; have x1 := cell_of_block r2 1; simp at y2 x0 x1
          rw [if_pos (by rfl)]
          go_simp
          refine hK _ _ _ (by simp only [Act.put, List.setIfInBounds_toArray, List.set_cons_zero, List.set_cons_succ, Nat.reduceAdd, n5] <;> rfl) ?_ hR trivial
          refine only_mk (v := v) ?_
          with_reducible rfl
      case hla =>
        intro us v hR hl
        obtain ⟨n0, n1, n2, n3, n4, n5, n6, -⟩ := need_last hl [0, 1, 2, 3, 4, 5, 6] (by kernel_rfl)
        have n0 : us 0 = _ := n0
        have n1 : us 1 = _ := n1
        have n2 : us 2 = _ := n2
        have n3 : us 3 = _ := n3
        have n4 : us 4 = _ := n4
        have n5 : us 5 = _ := n5
        have n6 : us 6 = _ := n6
        obtain ⟨r1, r2, r3⟩ := id hR; have y2 := cell_of_block r1.st 2; have x0 := cell_of_block r2 0; have x1 := cell_of_block r2 1; simp at y2 x0 x1
        simp only [n0, n1, n2, n3, n4, n5, n6]
        clear hl n0 n1 n2 n3 n4 n5 n6
        have HR6 := Lib.hid hR
        clear hR
        go_wp2_with fail
        go_ret
        exact ⟨e.p, e.q, _, rfl, HR6.out.1.at HI.out, Turns.of_below HR6.out.2.2 _⟩
  · have HNO := Lib.hid hno
    clear hno
    refine' wp_flow [only 0 _, only 1 _, only 2 _, only 3 (.map (some r)), only 4 (.agg #[.int .i64 a, .int .i64 b]), only 5 (.pointer none), only 6 _] (fun v => Lies v p r room s es ∧ v.heap[w.heap.size]? = some (.cells #[.int .i64 a, .int .i64 b] 143 (0, 0)) ∧ Below w.heap.size w v) [[], [0], [1], [2], [], [3, 4], [5]] [[], [], [], [], [], [], []] [[], [], [], [], [], [], []] [[], [], [], [], [], [], []] [] [0, 1, 3, 7, 0, 31, 63] _ (fun us => ?hfr) (by kernel_rfl) (by kernel_rfl) (by kernel_rfl) ⟨only_still _, only_still _, only_still _, only_still _, only_still _, only_still _, only_still _, trivial⟩ (⟨HL1.out.keep (fun _ _ => rfl), HX1.out, below_drewN HB1.out 1⟩) (by simp) (trivial) ?hst ?hla
    case hfr => (simp only [List.cons_append, List.nil_append, putAll, Act.put, List.setIfInBounds_toArray, List.set_cons_zero, List.set_cons_succ, Nat.reduceAdd]; rfl)
    case hst =>
      refine ⟨?_, ?_, ?_, ?_, ?_, ?_, ?_, trivial⟩
      · intro us v hR hn ho K hK
        clear ho
        obtain ⟨r1, r2, r3⟩ := id hR; have y2 := cell_of_block r1.st 2; have x0 := cell_of_block r2 0; have x1 := cell_of_block r2 1; simp at y2 x0 x1
        rw [if_pos (by rfl)]
        go_simp
        refine hK _ _ _ (by simp only [Act.put, List.setIfInBounds_toArray, List.set_cons_zero, List.set_cons_succ, Nat.reduceAdd] <;> rfl) ?_ hR trivial
        refine only_mk (v := v) ?_
        with_reducible rfl
      · intro us v hR hn ho K hK
        obtain ⟨n0, -⟩ := hn
        have n0 : us 0 = _ := n0
        clear ho
        obtain ⟨r1, r2, r3⟩ := id hR; have y2 := cell_of_block r1.st 2; have x0 := cell_of_block r2 0; have x1 := cell_of_block r2 1; simp at y2 x0 x1
        rw [if_pos (by rfl)]
        go_simp
        refine hK _ _ _ (by simp only [Act.put, List.setIfInBounds_toArray, List.set_cons_zero, List.set_cons_succ, Nat.reduceAdd, n0] <;> rfl) ?_ hR trivial
        refine only_mk (v := v) ?_
        with_reducible rfl
      · intro us v hR hn ho K hK
        obtain ⟨n1, -⟩ := hn
        have n1 : us 1 = _ := n1
        clear ho
        obtain ⟨r1, r2, r3⟩ := id hR; have y2 := cell_of_block r1.st 2; have x0 := cell_of_block r2 0; have x1 := cell_of_block r2 1; simp at y2 x0 x1
        rw [if_pos (by rfl)]
        go_simp
        refine hK _ _ _ (by simp only [Act.put, List.setIfInBounds_toArray, List.set_cons_zero, List.set_cons_succ, Nat.reduceAdd, n1] <;> rfl) ?_ hR trivial
        refine only_mk (v := v) ?_
        with_reducible rfl
      · intro us v hR hn ho K hK
        obtain ⟨n2, -⟩ := hn
        have n2 : us 2 = _ := n2
        clear ho
        obtain ⟨r1, r2, r3⟩ := id hR; have y2 := cell_of_block r1.st 2; have x0 := cell_of_block r2 0; have x1 := cell_of_block r2 1; simp at y2 x0 x1
        rw [if_pos (by rfl)]
        go_simp
        refine hK _ _ _ (by simp only [Act.put, List.setIfInBounds_toArray, List.set_cons_zero, List.set_cons_succ, Nat.reduceAdd, n2] <;> rfl) ?_ hR trivial
        refine only_mk (v := v) ?_
        with_reducible rfl
      · intro us v hR hn ho K hK
        clear ho
        obtain ⟨r1, r2, r3⟩ := id hR; have y2 := cell_of_block r1.st 2; have x0 := cell_of_block r2 0; have x1 := cell_of_block r2 1; simp at y2 x0 x1
        rw [if_pos (by rfl)]
        go_simp
        refine hK _ _ _ (by simp only [Act.put, List.setIfInBounds_toArray, List.set_cons_zero, List.set_cons_succ, Nat.reduceAdd] <;> rfl) ?_ hR trivial
        refine only_mk (v := v) ?_
        with_reducible rfl
      · intro us v hR hn ho K hK
        obtain ⟨n3, n4, -⟩ := hn
        have n3 : us 3 = _ := n3
        have n4 : us 4 = _ := n4
        clear ho
        obtain ⟨r1, r2, r3⟩ := id hR; have y2 := cell_of_block r1.st 2; have x0 := cell_of_block r2 0; have x1 := cell_of_block r2 1; simp at y2 x0 x1
        have hrun := r1.look_none HG.out HNO.out
        rw [if_pos (by rfl)]
        go_simp
        refine hK _ _ _ (by simp only [Act.put, List.setIfInBounds_toArray, List.set_cons_zero, List.set_cons_succ, Nat.reduceAdd, n3, n4] <;> rfl) ?_ hR trivial
        refine only_mk (v := v) ?_
        with_reducible rfl
      · intro us v hR hn ho K hK
        obtain ⟨n5, -⟩ := hn
        have n5 : us 5 = _ := n5
        clear ho
        obtain ⟨r1, r2, r3⟩ := id hR; have y2 := cell_of_block r1.st 2; have x0 := cell_of_block r2 0; have x1 := cell_of_block r2 1; simp at y2 x0 x1
        rw [if_pos (by rfl)]
        go_simp
        refine hK _ _ _ (by simp only [Act.put, List.setIfInBounds_toArray, List.set_cons_zero, List.set_cons_succ, Nat.reduceAdd, n5] <;> rfl) ?_ hR trivial
        refine only_mk (v := v) ?_
        with_reducible rfl
    case hla =>
      intro us v hR hl
      obtain ⟨n0, n1, n2, n3, n4, n5, n6, -⟩ := need_last hl [0, 1, 2, 3, 4, 5, 6] (by kernel_rfl)
      have n0 : us 0 = _ := n0
      have n1 : us 1 = _ := n1
      have n2 : us 2 = _ := n2
      have n3 : us 3 = _ := n3
      have n4 : us 4 = _ := n4
      have n5 : us 5 = _ := n5
      have n6 : us 6 = _ := n6
      obtain ⟨r1, r2, r3⟩ := id hR; have y2 := cell_of_block r1.st 2; have x0 := cell_of_block r2 0; have x1 := cell_of_block r2 1; simp at y2 x0 x1
      simp only [n0, n1, n2, n3, n4, n5, n6]
      clear hl n0 n1 n2 n3 n4 n5 n6
      have HR4 := Lib.hid hR
      clear hR
      go_wp2_with fail
      refine' wp_flow [only 0 _, only 1 _, only 2 _, only 3 (.map (some r)), only 4 (.agg #[.int .i64 a, .int .i64 b]), only 5 _, only 6 _, only 7 _, only 8 (.int .i64 room), own 9 (fun y v => ∃ P Q, y = .pointer (some ⟨P, 0, none⟩) ∧ RingS.Has v P Q s.m [] ∧ w.heap.size ≤ P ∧ w.heap.size ≤ Q ∧ P ≠ Q), (fun _ v => ∃ P Q, Lies v p r room s (es ++ [⟨a, b, P, Q⟩]) ∧ w.heap.size ≤ P ∧ w.heap.size ≤ Q), (fun _ v => Lies v p r room s es ∧ Below w.heap.size w v)] (fun v => v.heap[w.heap.size]? = some (.cells #[.int .i64 a, .int .i64 b] 143 (0, 0)) ∧ v.heap[p]? = some (.cells #[.int .i64 (s.n : Int), .int .i64 room, .map (some r)] 113 (0, 0)) ∧ Kept [r] w v) [[], [0], [1], [2], [], [], [5], [6], [7], [8], [3, 4, 9, 11]] [[], [], [], [], [], [], [], [], [], [], [9, 11]] [[], [], [], [], [], [], [], [], [], [], []] [[9, 11], [9, 11], [9, 11], [9, 11], [9, 11], [11], [11], [11], [11], [11], []] [9, 10, 11] [0, 1, 3, 7, 0, 0, 32, 96, 224, 480, 1023] _ (fun us => ?hfr) (by kernel_rfl) (by kernel_rfl) (by kernel_rfl) ⟨only_still _, only_still _, only_still _, only_still _, only_still _, only_still _, only_still _, only_still _, only_still _, trivial, trivial, trivial, trivial⟩ (⟨HR4.out.2.1, HR4.out.1.st, (Kept.of_below HR4.out.2.2 [r]).drew⟩) (by simp) (⟨HR4.out.1.keep (fun _ _ => rfl), below_drewN HR4.out.2.2 1⟩) ?hst ?hla
      case hfr => (simp only [List.cons_append, List.nil_append, putAll, Act.put, List.setIfInBounds_toArray, List.set_cons_zero, List.set_cons_succ, Nat.reduceAdd]; rfl)
      case hst =>
        refine ⟨?_, ?_, ?_, ?_, ?_, ?_, ?_, ?_, ?_, ?_, ?_, trivial⟩
        · intro us v hR hn ho K hK
          clear ho
          obtain ⟨r1, r2, r3⟩ := id hR; have y1 := cell_of_block r2 1; have y2 := cell_of_block r2 2; have x0 := cell_of_block r1 0; have x1 := cell_of_block r1 1; simp at y1 y2 x0 x1
          rw [if_pos (by rfl)]
          go_simp
          refine hK _ _ _ (by simp only [Act.put, List.setIfInBounds_toArray, List.set_cons_zero, List.set_cons_succ, Nat.reduceAdd] <;> rfl) ?_ hR ⟨fun h => h, fun h => h, trivial⟩
          refine only_mk (v := v) ?_
          with_reducible rfl
        · intro us v hR hn ho K hK
          obtain ⟨n0, -⟩ := hn
          have n0 : us 0 = _ := n0
          clear ho
          obtain ⟨r1, r2, r3⟩ := id hR; have y1 := cell_of_block r2 1; have y2 := cell_of_block r2 2; have x0 := cell_of_block r1 0; have x1 := cell_of_block r1 1; simp at y1 y2 x0 x1
          rw [if_pos (by rfl)]
          go_simp
          refine hK _ _ _ (by simp only [Act.put, List.setIfInBounds_toArray, List.set_cons_zero, List.set_cons_succ, Nat.reduceAdd, n0] <;> rfl) ?_ hR ⟨fun h => h, fun h => h, trivial⟩
          refine only_mk (v := v) ?_
          with_reducible rfl
        · intro us v hR hn ho K hK
          obtain ⟨n1, -⟩ := hn
          have n1 : us 1 = _ := n1
          clear ho
          obtain ⟨r1, r2, r3⟩ := id hR; have y1 := cell_of_block r2 1; have y2 := cell_of_block r2 2; have x0 := cell_of_block r1 0; have x1 := cell_of_block r1 1; simp at y1 y2 x0 x1
          rw [if_pos (by rfl)]
          go_simp
          refine hK _ _ _ (by simp only [Act.put, List.setIfInBounds_toArray, List.set_cons_zero, List.set_cons_succ, Nat.reduceAdd, n1] <;> rfl) ?_ hR ⟨fun h => h, fun h => h, trivial⟩
          refine only_mk (v := v) ?_
          with_reducible rfl
        · intro us v hR hn ho K hK
          obtain ⟨n2, -⟩ := hn
          have n2 : us 2 = _ := n2
          clear ho
          obtain ⟨r1, r2, r3⟩ := id hR; have y1 := cell_of_block r2 1; have y2 := cell_of_block r2 2; have x0 := cell_of_block r1 0; have x1 := cell_of_block r1 1; simp at y1 y2 x0 x1
          rw [if_pos (by rfl)]
          go_simp
          refine hK _ _ _ (by simp only [Act.put, List.setIfInBounds_toArray, List.set_cons_zero, List.set_cons_succ, Nat.reduceAdd, n2] <;> rfl) ?_ hR ⟨fun h => h, fun h => h, trivial⟩
          refine only_mk (v := v) ?_
          with_reducible rfl
        · intro us v hR hn ho K hK
          clear ho
          obtain ⟨r1, r2, r3⟩ := id hR; have y1 := cell_of_block r2 1; have y2 := cell_of_block r2 2; have x0 := cell_of_block r1 0; have x1 := cell_of_block r1 1; simp at y1 y2 x0 x1
          rw [if_pos (by rfl)]
          go_simp
          refine hK _ _ _ (by simp only [Act.put, List.setIfInBounds_toArray, List.set_cons_zero, List.set_cons_succ, Nat.reduceAdd] <;> rfl) ?_ hR ⟨fun h => h, fun h => h, trivial⟩
          refine only_mk (v := v) ?_
          with_reducible rfl
        · intro us v hR hn ho K hK
          clear ho
          obtain ⟨r1, r2, r3⟩ := id hR; have y1 := cell_of_block r2 1; have y2 := cell_of_block r2 2; have x0 := cell_of_block r1 0; have x1 := cell_of_block r1 1; simp at y1 y2 x0 x1
          rw [if_pos (by rfl)]
          go_simp
          refine hK _ _ _ (by simp only [Act.put, List.setIfInBounds_toArray, List.set_cons_zero, List.set_cons_succ, Nat.reduceAdd] <;> rfl) ?_ hR ⟨fun h => h, trivial⟩
          refine only_mk (v := v) ?_
          with_reducible rfl
        · intro us v hR hn ho K hK
          obtain ⟨n5, -⟩ := hn
          have n5 : us 5 = _ := n5
          clear ho
          obtain ⟨r1, r2, r3⟩ := id hR; have y1 := cell_of_block r2 1; have y2 := cell_of_block r2 2; have x0 := cell_of_block r1 0; have x1 := cell_of_block r1 1; simp at y1 y2 x0 x1
          rw [if_pos (by rfl)]
          go_simp
          refine hK _ _ _ (by simp only [Act.put, List.setIfInBounds_toArray, List.set_cons_zero, List.set_cons_succ, Nat.reduceAdd, n5] <;> rfl) ?_ hR ⟨fun h => h, trivial⟩
          refine only_mk (v := v) ?_
          with_reducible rfl
        · intro us v hR hn ho K hK
          obtain ⟨n6, -⟩ := hn
          have n6 : us 6 = _ := n6
          clear ho
          obtain ⟨r1, r2, r3⟩ := id hR; have y1 := cell_of_block r2 1; have y2 := cell_of_block r2 2; have x0 := cell_of_block r1 0; have x1 := cell_of_block r1 1; simp at y1 y2 x0 x1
          rw [if_pos (by rfl)]
          go_simp
          refine hK _ _ _ (by simp only [Act.put, List.setIfInBounds_toArray, List.set_cons_zero, List.set_cons_succ, Nat.reduceAdd, n6] <;> rfl) ?_ hR ⟨fun h => h, trivial⟩
          refine only_mk (v := v) ?_
          with_reducible rfl
        · intro us v hR hn ho K hK
          obtain ⟨n7, -⟩ := hn
          have n7 : us 7 = _ := n7
          clear ho
          obtain ⟨r1, r2, r3⟩ := id hR; have y1 := cell_of_block r2 1; have y2 := cell_of_block r2 2; have x0 := cell_of_block r1 0; have x1 := cell_of_block r1 1; simp at y1 y2 x0 x1
          rw [if_pos (by rfl)]
          go_simp
          refine hK _ _ _ (by simp only [Act.put, List.setIfInBounds_toArray, List.set_cons_zero, List.set_cons_succ, Nat.reduceAdd, n7] <;> rfl) ?_ hR ⟨fun h => h, trivial⟩
          refine only_mk (v := v) ?_
          with_reducible rfl
        · intro us v hR hn ho K hK
          obtain ⟨n8, -⟩ := hn
          have n8 : us 8 = _ := n8
          clear ho
          obtain ⟨r1, r2, r3⟩ := id hR; have y1 := cell_of_block r2 1; have y2 := cell_of_block r2 2; have x0 := cell_of_block r1 0; have x1 := cell_of_block r1 1; simp at y1 y2 x0 x1
          rw [if_pos (by rfl)]
          go_simp
          refine (RingS.new_has room v).mono ?_
          rintro e v' ⟨rfl, hh, hb9⟩
          dsimp only
          rw [HL.out.room] at hh
          have hsz := r3.size
          exact hK _ _ _ (by simp only [Act.put, List.setIfInBounds_toArray, List.set_cons_zero, List.set_cons_succ, Nat.reduceAdd, n8] <;> rfl) ⟨_, _, rfl, hh, by omega, hsz, by omega⟩ ⟨(hb9.block _ (lt_of_block r1)).trans r1, (hb9.block _ (lt_of_block r2)).trans r2, r3.trans (Kept.of_below hb9 [r])⟩ ⟨fun ⟨k1, k2⟩ => ⟨k1.keep (fun k hk => hb9.block k (k1.lt hk)), k2.trans (hb9.mono k2.size)⟩, trivial⟩
        · intro us v hR hn ho K hK
          obtain ⟨n3, n4, n9, ns, -⟩ := hn
          have n3 : us 3 = _ := n3
          have n4 : us 4 = _ := n4
          clear ho
          obtain ⟨r1, r2, r3⟩ := id hR; have y1 := cell_of_block r2 1; have y2 := cell_of_block r2 2; have x0 := cell_of_block r1 0; have x1 := cell_of_block r1 1; simp at y1 y2 x0 x1
          obtain ⟨P, Q, n9, hh, hP, hQ, hPQ⟩ := n9
          obtain ⟨k1, k2⟩ := ns
          obtain ⟨w2, hrun, hl2, hk2⟩ := HL.out.more HG.out HNO.out k2 hh hP hQ hPQ
          unfold key at hrun
          have hne : w.heap.size ≠ r := by have := HL.out.lt (k := r) (foot_mem.2 (.inr (.inl rfl))); omega
          have hb2 := (hk2.block w.heap.size (lt_of_block r1) (by simpa using hne)).trans r1
          have hb3 := hl2.st
          rw [if_pos (by rfl)]
          clear k1 k2 hh
          go_simp
          exact hK undef _ _ (by simp only [Act.put, List.setIfInBounds_toArray, List.set_cons_zero, List.set_cons_succ, Nat.reduceAdd, n3, n4, n9] <;> rfl) ⟨P, Q, hl2, hP, hQ⟩ ⟨hb2, hb3, r3.trans hk2⟩ trivial
      case hla =>
        intro us v hR hl
        obtain ⟨n0, n1, n2, n3, n4, n5, n6, n7, n8, n10, -⟩ := need_last hl [0, 1, 2, 3, 4, 5, 6, 7, 8, 10] (by kernel_rfl)
        have n0 : us 0 = _ := n0
        have n1 : us 1 = _ := n1
        have n2 : us 2 = _ := n2
        have n3 : us 3 = _ := n3
        have n4 : us 4 = _ := n4
        have n5 : us 5 = _ := n5
        have n6 : us 6 = _ := n6
        have n7 : us 7 = _ := n7
        have n8 : us 8 = _ := n8
        obtain ⟨r1, r2, r3⟩ := id hR; have y1 := cell_of_block r2 1; have y2 := cell_of_block r2 2; have x0 := cell_of_block r1 0; have x1 := cell_of_block r1 1; simp at y1 y2 x0 x1
        simp only [n0, n1, n2, n3, n4, n5, n6, n7, n8]
        clear hl n0 n1 n2 n3 n4 n5 n6 n7 n8
        obtain ⟨P, Q, hl5, hP, hQ⟩ := n10
        generalize us 9 = u9
        have hm5 : ∀ n, Lies (v.drewN n) p r room s (es ++ [⟨a, b, P, Q⟩]) ∧ Kept [r] w (v.drewN n) := fun n => ⟨hl5.keep (fun _ _ => rfl), hR.2.2.drewN n⟩
        have hrun : ∀ n, (Instr.lookup 111 (.map (some r)) (.agg #[.int .i64 a, .int .i64 b]) false).run Tryz.prog (v.drewN n) = .ok (.pointer (some ⟨P, 0, none⟩)) (v.drewN n) := fun n => (hm5 n).1.look_at (i := es.length) (e := ⟨a, b, P, Q⟩) (by simp)
        have HM5 := Lib.hid hm5
        have y2 := cell_of_block hl5.st 2
        have x0 := cell_of_block hR.1 0
        have x1 := cell_of_block hR.1 1
        simp at y2 x0 x1
        clear hl5 hR hm5
        go_wp2_with fail
        go_quiet (fail)
        go_wp2
        go_ret
        refine ⟨P, Q, _, rfl, (HM5.out nq).1.at (i := es.length) (e := ⟨a, b, P, Q⟩) (by simp), ⟨(HM5.out nq).2.mono (by simp [foot]), fun k hk => ?_⟩⟩
        rcases foot_mem.1 hk with rfl | rfl | ⟨e, he, hke⟩
        · exact .inl (foot_mem.2 (.inl rfl))
        · exact .inl (foot_mem.2 (.inr (.inl rfl)))
        · rcases List.mem_append.1 he with he | he
          · exact .inl (foot_mem.2 (.inr (.inr ⟨e, he, hke⟩)))
          · simp at he; subst he
            rcases hke with rfl | rfl
            · exact .inr hP
            · exact .inr hQ
end
end Go.Proofs.YtihhflajkohibaaGreatDoor.Net
