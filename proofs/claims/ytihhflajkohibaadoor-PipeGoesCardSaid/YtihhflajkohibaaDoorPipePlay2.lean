/- Layer 10: an act of a side that is there, as the statements play it. Conditions: all lies apart from each other (St10); sizes (Sz10). -/
import Derived.Test.YtihhflajkohibaaDoorPipePlay
namespace Go.Proofs.YtihhflajkohibaaDoor.Pipe
set_option linter.unusedSimpArgs false
set_option linter.unusedVariables false
set_option maxRecDepth 100000
open Go.RowKit
open Go.Proofs.YtihhflajkohibaaDoor
open Go.Proofs.YtihhflajkohibaaDoor.Link (LE Fr EndIs)
open Go.Proofs.YtihhflajkohibaaDoor.Net (NS NetIs)
section
variable {B : Nat} {M : M10} {t : T10} {X : List Thing} {w : World}

/-- while the bytes that went are told -/
def L2true (B : Nat) (M : M10) (t : T10) (a : Act10) (X : List Thing) (T : Array Value) (b j : Nat) (wr : World) : Prop :=
  ∃ F' wf, St10 B { M with F := F', w := wf } { t.pipe (t.s.go false) with w := up t.w true (t.w true ++ (t.s.news false).take j) } (boxes5 b a (M10.wc { M with F := F', w := wf } { t.pipe (t.s.go false) with w := up t.w true (t.w true ++ (t.s.news false).take j) }) T zero2 zero2 ++ X) wr
set_option maxRecDepth 100000 in
set_option maxHeartbeats 16000000 in
theorem play_false (h : St10 B M t X w) (hz : Sz10 t) (K N x : Int) (S : ByteArray) (hbad : ¬ (K = 3 ∧ t.bad false N)) :
    Calls Tryd.prog 11 #[.pointer (some ⟨M.p, 0, none⟩), .agg (⟨K, 0, N, x, S⟩ : Act10).cells.toArray, .agg (M.wc t), .agg (M.tc t)] w (PlaySaid B M.p X (t.play false (⟨K, 0, N, x, S⟩ : Act10)) true w) := by
  obtain ⟨i0, hi0, hz0, hz1, hz2⟩ := info_parts Link.str_info
  obtain ⟨W, hW⟩ : ∃ W, M.wc t = W := ⟨_, rfl⟩
  obtain ⟨T, hT⟩ : ∃ T, M.tc t = T := ⟨_, rfl⟩
  obtain ⟨w5, hw5⟩ : ∃ w5, ((((w.alloc (.cells (⟨K, 0, N, x, S⟩ : Act10).cells.toArray 33)).alloc (.cells W 29)).alloc (.cells T 29)).alloc (.cells zero2 29)).alloc (.cells zero2 29) = w5 := ⟨_, rfl⟩
  obtain ⟨hl, hb⟩ := h.boxes (⟨K, 0, N, x, S⟩ : Act10) W T
  rw [hw5] at hl hb
  unfold zero2 at hw5
  simp only [Act10.cells] at hw5
  have HW5 := Lib.hid hw5
  have HL := Lib.hid hl
  have HB := Lib.hid (hb.mono h.le)
  have HWT := Lib.hid (And.intro hW hT)
  have HZ := Lib.hid hz
  have HBAD := Lib.hid hbad
  have HOK := Lib.hid h.pipe.netOk
  have HEO := Lib.hid (h.pipe.endOk false)
  rw [hW, hT]
  have hx := hl.x 4 rfl
  have x0 := cell_of_block hx 0
  have x1 := cell_of_block hx 1
  have x2 := cell_of_block hx 2
  have x3 := cell_of_block hx 3
  have x4 := cell_of_block hx 4
  simp [Act10.cells] at x0 x1 x2 x3 x4
  simp only [Act10.cells]
  clear hl hb hw5 hW hT h hz hx hbad
  go_enter Tryd.func11, Tryd.ntmps11
  go_upto_region 1 with fail
  rw [HW5.out]
  go_upto_block 0 with fail
  go_cut [] (fun wx => PlayMid B M.p X (t.play false (⟨K, 0, N, x, S⟩ : Act10)) (⟨K, 0, N, x, S⟩ : Act10) w wx)
  case first =>
    have HMID : ∀ {t' : T10} {M' : M10} {v : World}, t.play false (⟨K, 0, N, x, S⟩ : Act10) = t' → M'.p = M.p → St10 B M' t' (boxes5 w.heap.size (⟨K, 0, N, x, S⟩ : Act10) (M'.wc t') (M'.tc t') zero2 zero2 ++ X) v → Below B w v → PlayMid B M.p X (t.play false (⟨K, 0, N, x, S⟩ : Act10)) (⟨K, 0, N, x, S⟩ : Act10) w v := fun e hp h1 h2 => ⟨_, hp, by rw [e]; exact h1, h2⟩
    by_cases h0 : K = 0
    · have q0 : (K == 0) = true := beq_iff_eq.2 h0
      have HP := Lib.hid (show t.play false (⟨K, 0, N, x, S⟩ : Act10) = t.send false S from by unfold T10.play; rw [if_pos h0])
      clear h0
      go_wp2_with fail
      refine (HL.out.act (send_yes HL.out.pipe HL.out.le false S)).mono ?_
      obtain ⟨E, hE⟩ : ∃ E, (t.s.e false).sendE S = E := ⟨_, rfl⟩
      rw [hE]
      have HE := Lib.hid hE
      clear hE
      rintro e w6 ⟨rfl, F6, h6, hb6⟩
      have HL6 := Lib.hid h6
      have HB6 := Lib.hid (HB.out.trans hb6)
      clear h6 hb6
      by_cases hE : E = 0
      · have q1 : (E == 0) = true := beq_iff_eq.2 hE
        obtain ⟨ys, hys⟩ : ∃ ys, t.t false ++ [S] = ys := ⟨_, rfl⟩
        have HYL := Lib.hid (show (t.t false).length + 1 = ys.length from by rw [← hys]; simp)
        have HYM := Lib.hid (show (t.t false).map Value.string ++ [.string S] = ys.map .string from by rw [← hys]; simp)
        have HP2 := Lib.hid (show t.send false S = { t.pipe (t.s.send false S) with t := up t.t false ys } from by unfold T10.send T10.pipe; rw [HE.out, if_pos hE, hys])
        have HTC := Lib.hid (show T[0]? = some (sl (M.t false) (t.t false).length) from by rw [← HWT.out.2]; rfl)
        have htl := HZ.out.t false
        clear hE hys
        go_wp2_with fail
        refine' wp_flow [only 0 _, only 1 _, only 2 _, only 3 _, only 4 _, only 5 (.slice (M.t false).A (t.t false).length (M.t false).c), only 6 _, only 7 (.string S), (fun us v => ∃ g, us 8 = .slice (some ⟨g, 0, none⟩) 1 1 ∧ v.heap[g]? = some (.cells #[.string S] 9 (0, 0))), (fun us v => ∃ arr : Arr, us 9 = sl arr ys.length ∧ St10 B { M with F := F6, t := up M.t false arr } { t.pipe (t.s.send false S) with t := up t.t false ys } (boxes5 w.heap.size (⟨K, 0, N, x, S⟩ : Act10) W T zero2 zero2 ++ X) v ∧ Below B w v), only 10 _, (fun _ v => ∃ arr : Arr, St10 B { M with F := F6, t := up M.t false arr } { t.pipe (t.s.send false S) with t := up t.t false ys } (boxes5 w.heap.size (⟨K, 0, N, x, S⟩ : Act10) W (T.setIfInBounds 0 (sl arr ys.length)) zero2 zero2 ++ X) v ∧ Below B w v), (fun _ v => St10 B { M with F := F6 } (t.pipe (t.s.send false S)) (boxes5 w.heap.size (⟨K, 0, N, x, S⟩ : Act10) W T zero2 zero2 ++ X) v ∧ Below B w v)] (fun v => v.heap[w.heap.size]? = some (.cells #[.int .i64 K, .int .i64 0, .int .i64 N, .int .i64 x, .string S] 33 (0, 0))) [[], [0], [], [2], [3], [4, 12], [], [6], [7], [5, 8, 12], [1], [9, 10]] [[], [], [], [], [], [], [], [], [], [8, 12], [], [9]] [[], [], [], [], [], [], [], [], [], [], [], []] [[8, 9, 12], [8, 9, 12], [8, 12], [8, 12], [8, 12], [8, 12], [12], [12], [12], [], [8, 9, 12], []] [8, 9, 11, 12] [0, 1, 0, 4, 12, 28, 0, 64, 192, 508, 3, 2047] _ (fun us => ?hfr) (by kernel_rfl) (by kernel_rfl) (by kernel_rfl) ⟨only_still _, only_still _, only_still _, only_still _, only_still _, only_still _, only_still _, only_still _, trivial, trivial, only_still _, trivial, trivial, trivial⟩ ((HL6.out.x 4 rfl)) (by simp) (⟨HL6.out.after (below_drewN (Below.refl _ _) 1), below_drewN HB6.out 1⟩) ?hst ?hla
        case hfr => (simp only [List.cons_append, List.nil_append, putAll, Act.put, List.setIfInBounds_toArray, List.set_cons_zero, List.set_cons_succ, Nat.reduceAdd]; rfl)
        case hst =>
          refine ⟨?_, ?_, ?_, ?_, ?_, ?_, ?_, ?_, ?_, ?_, ?_, ?_, trivial⟩
          · intro us v hR hn ho K hK
            clear ho
            have z1 := cell_of_block hR 1; have z4 := cell_of_block hR 4; simp at z1 z4
            rw [if_pos (by rfl)]
            go_simp
            refine hK _ _ _ (by simp only [Act.put, List.setIfInBounds_toArray, List.set_cons_zero, List.set_cons_succ, Nat.reduceAdd] <;> rfl) ?_ hR ⟨fun h => h, fun h => h, fun h => h, trivial⟩
            refine only_mk (v := v) ?_
            with_reducible rfl
          · intro us v hR hn ho K hK
            obtain ⟨n0, -⟩ := hn
            have n0 : us 0 = _ := n0
            clear ho
            have z1 := cell_of_block hR 1; have z4 := cell_of_block hR 4; simp at z1 z4
            rw [if_pos (by rfl)]
            go_simp
            refine hK _ _ _ (by simp only [Act.put, List.setIfInBounds_toArray, List.set_cons_zero, List.set_cons_succ, Nat.reduceAdd, n0] <;> rfl) ?_ hR ⟨fun h => h, fun h => h, fun h => h, trivial⟩
            refine only_mk (v := v) ?_
            with_reducible rfl
          · intro us v hR hn ho K hK
            clear ho
            have z1 := cell_of_block hR 1; have z4 := cell_of_block hR 4; simp at z1 z4
            rw [if_pos (by rfl)]
            go_simp
            refine hK _ _ _ (by simp only [Act.put, List.setIfInBounds_toArray, List.set_cons_zero, List.set_cons_succ, Nat.reduceAdd] <;> rfl) ?_ hR ⟨fun h => h, fun h => h, trivial⟩
            refine only_mk (v := v) ?_
            with_reducible rfl
          · intro us v hR hn ho K hK
            obtain ⟨n2, -⟩ := hn
            have n2 : us 2 = _ := n2
            clear ho
            have z1 := cell_of_block hR 1; have z4 := cell_of_block hR 4; simp at z1 z4
            rw [if_pos (by rfl)]
            go_simp
            refine hK _ _ _ (by simp only [Act.put, List.setIfInBounds_toArray, List.set_cons_zero, List.set_cons_succ, Nat.reduceAdd, n2] <;> rfl) ?_ hR ⟨fun h => h, fun h => h, trivial⟩
            refine only_mk (v := v) ?_
            with_reducible rfl
          · intro us v hR hn ho K hK
            obtain ⟨n3, -⟩ := hn
            have n3 : us 3 = _ := n3
            clear ho
            have z1 := cell_of_block hR 1; have z4 := cell_of_block hR 4; simp at z1 z4
            rw [if_pos (by rfl)]
            go_simp
            refine hK _ _ _ (by simp only [Act.put, List.setIfInBounds_toArray, List.set_cons_zero, List.set_cons_succ, Nat.reduceAdd, n3] <;> rfl) ?_ hR ⟨fun h => h, fun h => h, trivial⟩
            refine only_mk (v := v) ?_
            with_reducible rfl
          · intro us v hR hn ho K hK
            obtain ⟨n4, ns, -⟩ := hn
            have n4 : us 4 = _ := n4
            clear ho
            have z1 := cell_of_block hR 1; have z4 := cell_of_block hR 4; simp at z1 z4
            have y0 := (cell_of_block (ns.1.x 2 rfl) 0).trans HTC.out
            unfold sl at y0
            rw [if_pos (by rfl)]
            go_simp
            refine hK _ _ _ (by simp only [Act.put, List.setIfInBounds_toArray, List.set_cons_zero, List.set_cons_succ, Nat.reduceAdd, n4] <;> rfl) ?_ hR ⟨fun h => h, fun h => h, trivial⟩
            refine only_mk (v := v) ?_
            with_reducible rfl
          · intro us v hR hn ho K hK
            clear ho
            have z1 := cell_of_block hR 1; have z4 := cell_of_block hR 4; simp at z1 z4
            rw [if_pos (by rfl)]
            go_simp
            refine hK _ _ _ (by simp only [Act.put, List.setIfInBounds_toArray, List.set_cons_zero, List.set_cons_succ, Nat.reduceAdd] <;> rfl) ?_ hR ⟨fun h => h, trivial⟩
            refine only_mk (v := v) ?_
            with_reducible rfl
          · intro us v hR hn ho K hK
            obtain ⟨n6, -⟩ := hn
            have n6 : us 6 = _ := n6
            clear ho
            have z1 := cell_of_block hR 1; have z4 := cell_of_block hR 4; simp at z1 z4
            rw [if_pos (by rfl)]
            go_simp
            refine hK _ _ _ (by simp only [Act.put, List.setIfInBounds_toArray, List.set_cons_zero, List.set_cons_succ, Nat.reduceAdd, n6] <;> rfl) ?_ hR ⟨fun h => h, trivial⟩
            refine only_mk (v := v) ?_
            with_reducible rfl
          · intro us v hR hn ho K hK
            obtain ⟨n7, -⟩ := hn
            have n7 : us 7 = _ := n7
            clear ho
            have z1 := cell_of_block hR 1; have z4 := cell_of_block hR 4; simp at z1 z4
            rw [if_pos (by rfl)]
            have hba : Below v.heap.size v (v.alloc (.cells #[.string S] 9)) := (Below.refl _ _).alloc (Nat.le_refl _) _
            have hr2 := (hba.block _ (lt_of_block hR)).trans hR
            have HR2 := Lib.hid hr2
            clear hr2
            go_simp
            exact hK _ _ _ (by simp only [Act.put, List.setIfInBounds_toArray, List.set_cons_zero, List.set_cons_succ, Nat.reduceAdd, n7] <;> rfl) ⟨_, rfl, heap_alloc_new v _⟩ HR2.out ⟨fun h => ⟨h.1.after hba, h.2.trans (hba.mono h.1.le)⟩, trivial⟩
          · intro us v hR hn ho K hK
            obtain ⟨n5, n8, ns, -⟩ := hn
            have n5 : us 5 = _ := n5
            clear ho
            have z1 := cell_of_block hR 1; have z4 := cell_of_block hR 4; simp at z1 z4
            obtain ⟨g9, n8, hg9⟩ := n8
            obtain ⟨l1, l2⟩ := ns
            refine step_append_vec _ (by rfl) (.tmp 58) (.tmp 61) 28 28 (by rfl) 9 i0 _ 1 16 Tryd.underlying28 hi0 hz0 hz1 hz2 rfl (M.t false).F (M.t false).A (t.t false).length (M.t false).c ((t.t false).map .string) (.slice (some ⟨g9, 0, none⟩) 1 1) 1 [.string S] n5 n8 (l1.tv false) (src_new _ Tryd.underlying28 [.string S] 1 1 1 rfl (by simp [Value.oneCell']) _ hg9) (by unfold maxLen; omega) (by omega) ?_
            intro v' w8 happ
            rw [HYL.out, HYM.out] at happ
            obtain ⟨F7, A7, c7, rfl, hv7, ht7⟩ := happ.all
            obtain ⟨k1, k2⟩ := l1.setT (me := false) (a := ⟨A7, c7, F7⟩) (l := ys) hv7 ht7
            exact hK _ _ _ (by simp only [Act.put, List.setIfInBounds_toArray, List.set_cons_zero, List.set_cons_succ, Nat.reduceAdd, n5, n5, n8] <;> rfl) ⟨⟨A7, c7, F7⟩, rfl, k1, l2.trans k2⟩ (k1.x 4 rfl) trivial
          · intro us v hR hn ho K hK
            obtain ⟨n1, -⟩ := hn
            have n1 : us 1 = _ := n1
            clear ho
            have z1 := cell_of_block hR 1; have z4 := cell_of_block hR 4; simp at z1 z4
            rw [if_pos (by rfl)]
            go_simp
            refine hK _ _ _ (by simp only [Act.put, List.setIfInBounds_toArray, List.set_cons_zero, List.set_cons_succ, Nat.reduceAdd, n1] <;> rfl) ?_ hR ⟨fun h => h, fun h => h, fun h => h, trivial⟩
            refine only_mk (v := v) ?_
            with_reducible rfl
          · intro us v hR hn ho K hK
            obtain ⟨n9, n10, -⟩ := hn
            have n10 : us 10 = _ := n10
            clear ho
            have z1 := cell_of_block hR 1; have z4 := cell_of_block hR 4; simp at z1 z4
            obtain ⟨arr, n9, l1, l2⟩ := n9
            have hbx := l1.x 2 rfl
            have y0 := (cell_of_block hbx 0).trans HTC.out
            have f0 := frozen_of_block hbx 0
            obtain ⟨k1, k2⟩ := l1.box 2 rfl 0 (sl arr ys.length)
            have HK1 := Lib.hid (And.intro k1 (l2.trans k2))
            unfold sl at n9 y0
            clear k1 k2 hbx
            rw [if_pos (by rfl)]
            go_simp
            exact hK undef _ _ (by simp only [Act.put, List.setIfInBounds_toArray, List.set_cons_zero, List.set_cons_succ, Nat.reduceAdd, n10, n9] <;> rfl) ⟨arr, HK1.out.1, HK1.out.2⟩ (HK1.out.1.x 4 rfl) trivial
        case hla =>
          intro us v hR hl
          obtain ⟨n0, n1, n2, n3, n4, n5, n6, n7, n10, n11, -⟩ := need_last hl [0, 1, 2, 3, 4, 5, 6, 7, 10, 11] (by kernel_rfl)
          have n0 : us 0 = _ := n0
          have n1 : us 1 = _ := n1
          have n2 : us 2 = _ := n2
          have n3 : us 3 = _ := n3
          have n4 : us 4 = _ := n4
          have n5 : us 5 = _ := n5
          have n6 : us 6 = _ := n6
          have n7 : us 7 = _ := n7
          have n10 : us 10 = _ := n10
          have z1 := cell_of_block hR 1; have z4 := cell_of_block hR 4; simp at z1 z4
          simp only [n0, n1, n2, n3, n4, n5, n6, n7, n10]
          clear hl n0 n1 n2 n3 n4 n5 n6 n7 n10
          obtain ⟨arr, l9, b9⟩ := n11
          have HM9 := Lib.hid (HMID (HP.out.trans HP2.out) rfl (M' := { M with F := F6, t := up M.t false arr }) (by
            have e := tc_set M t false arr ys
            rw [HWT.out.2] at e
            have l9' := l9
            rw [show T.setIfInBounds 0 (sl arr ys.length) = T.setIfInBounds (false : Bool).toNat (sl arr ys.length) from rfl, e, ← HWT.out.1] at l9'
            exact l9') b9)
          clear l9 b9 hR z1 z4
          go_wp2_with fail
          go_meet
          exact HM9.out
      · have q1 : (E == 0) = false := beq_eq_false_iff_ne.2 hE
        have HM9 := Lib.hid (HMID (t' := t.pipe (t.s.send false S)) (HP.out.trans (by unfold T10.send T10.pipe; rw [HE.out, if_neg hE, up_id])) rfl (M' := { M with F := F6 }) (by
          have l6 := HL6.out
          rw [← HWT.out.1, ← HWT.out.2] at l6
          exact l6) HB6.out)
        clear hE
        go_wp2_with fail
        go_meet
        exact HM9.out
    · have q0 : (K == 0) = false := beq_eq_false_iff_ne.2 h0
      by_cases h1 : K = 1
      · have q1 : (K == 1) = true := beq_iff_eq.2 h1
        have HP := Lib.hid (show t.play false (⟨K, 0, N, x, S⟩ : Act10) = t.go false from by unfold T10.play; rw [if_neg h0, if_pos h1])
        clear h0 h1
        go_wp2_with fail
        refine (HL.out.act (go_yes HL.out.pipe HL.out.env false)).mono ?_
        obtain ⟨r1, r2, r3, r4, r5, r6, r7⟩ := t.s.go_row false
        have r1 : (t.s.go false).row true = t.s.row true ++ t.s.news false := r1
        obtain ⟨n, hn⟩ : ∃ n, (t.s.gone false).2 = n := ⟨_, rfl⟩
        rw [hn] at r2 r7 ⊢
        have hgl := goes_le HEO.out
        rintro e w6 ⟨rfl, F6, h6, hb6⟩
        have hok6 := h6.pipe.netOk
        obtain ⟨L, hL⟩ : ∃ L, ((t.s.go false).row true).length = L := ⟨_, rfl⟩
        have hL1000 : L ≤ 1000 := by rw [← hL]; exact Nat.le_trans (hok6.room _ _) hok6.m1000
        have hnL : n ≤ L := by
          have : ((t.s.go false).row true).length = (t.s.row true).length + n := by
            rw [r1, List.length_append, r2]
          omega
        have HROW := Lib.hid (show ∀ j (hj : j < n), (t.s.go false).has true ((L - n + j : Nat) : Int) = true ∧ (t.s.news false)[j]? = some ((t.s.go false).look true ((L - n + j : Nat) : Int)) from fun j hj => by
          have e1 : ((t.s.go false).row true).length = (t.s.row true).length + n := by rw [r1, List.length_append, r2]
          have hlt : L - n + j < ((t.s.go false).row true).length := by omega
          refine ⟨by rw [PS.has_row]; simp; omega, ?_⟩
          rw [PS.look_row _ _ _ hlt, ← List.getElem?_eq_getElem hlt]
          rw [r1, List.getElem?_append_right (by omega)]
          congr 1; omega)
        have HHAS := Lib.hid (show ∀ k : Nat, (t.s.go false).has true (k : Int) = decide (k < L) from fun k => by rw [PS.has_row, hL]; simp)
        have HNL := Lib.hid r2
        have hwl := HZ.out.w true
        have HL6 := Lib.hid (show ∃ F', St10 B { M with F := F' } (t.pipe (t.s.go false)) (boxes5 w.heap.size (⟨K, 0, N, x, S⟩ : Act10) W T zero2 zero2 ++ X) w6 from ⟨F6, h6⟩)
        have HB6 := Lib.hid (HB.out.trans hb6)
        have hx6 := h6.x 4 rfl
        have x1 := cell_of_block hx6 1
        simp [Act10.cells] at x1
        clear h6 hb6 hx6 r1 r2 r3 r4 r5 r6 hok6 hL hn hgl
        go_wp2_with fail
        clear x1
        go_loopw [13, 14] (fun s i wr => ∃ k : Nat, k ≤ 1001 ∧ i = .int .i64 (k : Int) ∧ s = .int .i64 ((min k L : Nat) : Int) ∧ (∃ F', St10 B { M with F := F' } (t.pipe (t.s.go false)) (boxes5 w.heap.size (⟨K, 0, N, x, S⟩ : Act10) W T zero2 zero2 ++ X) wr) ∧ Below B w wr) (fun _ i _ => 1001 - (intOf i).toNat)
        case atStart => exact ⟨0, by omega, rfl, by simp, HL6.out, HB6.out⟩
        case round =>
          obtain ⟨k, hk, rfl, rfl, ⟨F', hs⟩, hb⟩ := hrel
          have HS := Lib.hid hs
          have HBS := Lib.hid hb
          clear hs hb
          by_cases hlt : k < 1001
          · have dk : decide ((k : Int) < 1001) = true := by simp; omega
            go_wp2_with fail
            refine (HS.out.act (look_yes HS.out.pipe HS.out.le true (k : Int))).mono ?_
            have hh := HHAS.out k
            rw [show (t.pipe (t.s.go false)).s.has true (k : Int) = decide (k < L) from hh]
            generalize (t.pipe (t.s.go false)).s.look true (k : Int) = lk
            rintro e w7 ⟨rfl, F7, h7, hb7⟩
            have HS7 := Lib.hid h7
            have HB7 := Lib.hid (HBS.out.trans hb7)
            clear h7 hb7 hh
            by_cases hkl : k < L
            · have d2 : decide (k < L) = true := decide_eq_true hkl
              rw [d2]
              have hm1 : min k L = k := by omega
              rw [hm1]
              go_wp2_with fail
              go_roundw
              case rel => exact ⟨k + 1, by omega, by go_num, by congr 1; omega, ⟨F7, HS7.out⟩, HB7.out⟩
              case measure => simp [intOf]; omega
            · have d2 : decide (k < L) = false := decide_eq_false hkl
              rw [d2]
              have hm1 : min k L = L := by omega
              rw [hm1]
              go_wp2_with fail
              go_roundw
              case rel => exact ⟨k + 1, by omega, by go_num, by congr 1; omega, ⟨F7, HS7.out⟩, HB7.out⟩
              case measure => simp [intOf]; omega
          · have dk : decide ((k : Int) < 1001) = false := by simp; omega
            have hm1 : min k L = L := by omega
            rw [hm1]
            have hnl : (L : Int) - (n : Int) = ((L - n : Nat) : Int) := by omega
            have HST := Lib.hid (show L2true B M t (⟨K, 0, N, x, S⟩ : Act10) X T w.heap.size 0 wr from by
              refine ⟨F', M.w, ?_⟩
              rw [List.take_zero, List.append_nil, up_id]
              have hs := HS.out
              rw [← HWT.out.1] at hs
              exact hs)
            have hn0 : (0 : Int) ≤ (n : Int) := by omega
            clear hlt hm1 hk
            go_wp2_with fail
            go_loopw [17] (fun i wr => ∃ j : Nat, j ≤ n ∧ i = .int .i64 ((L - n + j : Nat) : Int) ∧ L2true B M t (⟨K, 0, N, x, S⟩ : Act10) X T w.heap.size j wr ∧ Below B w wr) (fun i _ => L - (intOf i).toNat)
            case atStart => exact ⟨0, Nat.zero_le _, by rw [Nat.add_zero], HST.out, HBS.out⟩
            case round =>
              obtain ⟨j, hj, rfl, hs2, hb2⟩ := hrel
              have HBS2 := Lib.hid hb2
              by_cases hjl : j < n
              · have hlt2 : L - n + j < L := by omega
                have dk2 : decide (((L - n + j : Nat) : Int) < (L : Int)) = true := by simp; omega
                obtain ⟨i, hi⟩ : ∃ i : Nat, L - n + j = i := ⟨_, rfl⟩
                rw [hi] at dk2 hlt2
                obtain ⟨c1, c2⟩ := HROW.out j hjl
                rw [hi] at c1 c2
                obtain ⟨b, hb⟩ : ∃ b, (t.s.go false).look true (i : Int) = b := ⟨_, rfl⟩
                rw [hb] at c2
                obtain ⟨F2, w2, hs2⟩ := hs2
                obtain ⟨xs, hxs⟩ : ∃ xs, t.w true ++ (t.s.news false).take j = xs := ⟨_, rfl⟩
                rw [hxs] at hs2
                have HYS := Lib.hid (show t.w true ++ (t.s.news false).take (j + 1) = xs ++ [b] from by rw [List.take_add_one, c2, ← hxs]; simp)
                have hxl : xs.length ≤ 200000 := by rw [← hxs, List.length_append, List.length_take]; omega
                obtain ⟨t2, ht2⟩ : ∃ t2 : T10, { t.pipe (t.s.go false) with w := up t.w true xs } = t2 := ⟨_, rfl⟩
                rw [ht2] at hs2
                have HT2 := Lib.hid (show t2.s.has true (i : Int) = true ∧ t2.s.look true (i : Int) = b ∧ t2.w true = xs from by
                  have hu : up t.w true xs true = xs := up_same _ _ _
                  rw [← ht2]; exact ⟨c1, hb, hu⟩)
                have HTE := Lib.hid ht2
                have HS2 := Lib.hid hs2
                have HHI := Lib.hid hi
                rw [hi]
                clear hs2 hb2 hb c1 c2 hxs hi ht2
                go_wp2_with fail
                refine (HS2.out.act (look_yes HS2.out.pipe HS2.out.le true (i : Int))).mono ?_
                rw [HT2.out.1, HT2.out.2.1]
                rintro e w7 ⟨rfl, F7, h7, hb7⟩
                have h7 : St10 B { M with F := F7, w := w2 } t2 (boxes5 w.heap.size (⟨K, 0, N, x, S⟩ : Act10) (M10.wc { M with F := F2, w := w2 } t2) T zero2 zero2 ++ X) w7 := h7
                obtain ⟨W3, hW3⟩ : ∃ W3, M10.wc { M with F := F2, w := w2 } t2 = W3 := ⟨_, rfl⟩
                have HW3 := Lib.hid hW3
                rw [hW3] at h7
                have HB7 := Lib.hid (HBS2.out.trans hb7)
                have HWC := Lib.hid (show W3[1]? = some (sl (w2 true) xs.length) from by
                  rw [← hW3, ← HT2.out.2.2]; exact wc_at { M with F := F2, w := w2 } t2 true)
                have y0 := (cell_of_block (h7.x 3 rfl) 1).trans HWC.out
                unfold sl at y0
                obtain ⟨ys, hys⟩ : ∃ ys, xs ++ [b] = ys := ⟨_, rfl⟩
                have HYE := Lib.hid hys
                have HYL := Lib.hid (show xs.length + 1 = ys.length from by rw [← hys]; simp)
                have HYM := Lib.hid (show xs.map Value.string ++ [.string b] = ys.map .string from by rw [← hys]; simp)
                have hva : Below w7.heap.size w7 (w7.alloc (.cells #[.string b] 9)) := (Below.refl _ _).alloc (Nat.le_refl _) _
                have HLA := Lib.hid (h7.after hva)
                have HBA := Lib.hid (HB7.out.trans (hva.mono h7.le))
                have HVA := Lib.hid (show Vec (w7.alloc (.cells #[.string b] 9)) (w2 true).F 1 (w2 true).A xs.length (w2 true).c (xs.map .string) from by
                  have := (h7.after hva).wv true
                  rw [HT2.out.2.2] at this
                  exact this)
                clear h7 hb7 hva hys hW3
                go_wp2_with (at_builtin; (refine wpList_append_vec _ (by rfl) _ _ _ _ (by rfl) 9 i0 _ 1 16 Tryd.underlying28 hi0 hz0 hz1 hz2 rfl (w2 true).F (w2 true).A xs.length (w2 true).c (xs.map .string) (.slice (some ⟨w7.heap.size, 0, none⟩) 1 1) 1 [.string b] (by rfl) (by rfl) (by exact HVA.out) (by exact src_new _ Tryd.underlying28 [.string b] 1 1 1 rfl (by simp [Value.oneCell']) _ (heap_alloc_new w7 _)) (by unfold maxLen; omega) (by omega) ?_; intro v6 w8 happ; rw [HYL.out, HYM.out] at happ; obtain ⟨F8, A8, c8, rfl, hv8, ht8⟩ := happ.all; obtain ⟨l8, b8⟩ := HLA.out.setW (me := true) (a := ⟨A8, c8, F8⟩) (l := ys) hv8 ht8; have hbx8 := l8.x 3 rfl; have y8 := (cell_of_block hbx8 1).trans HWC.out; have f8 := frozen_of_block hbx8 1; unfold sl at y8; obtain ⟨k1, k2⟩ := l8.box 3 rfl 1 (sl ⟨A8, c8, F8⟩ ys.length); have HL8 := Lib.hid k1; have HB8 := Lib.hid ((HBA.out.trans b8).trans k2); clear happ l8 b8 hv8 ht8 hbx8 y0 k1 k2))
                have HST2 := Lib.hid (show L2true B M t (⟨K, 0, N, x, S⟩ : Act10) X T w.heap.size (j + 1) (w8.setCell ⟨w.heap.size + 1, 1, none⟩ (.slice A8 ys.length c8)) from by
                  refine ⟨F7, up w2 true ⟨A8, c8, F8⟩, ?_⟩
                  rw [HYS.out, HYE.out]
                  have l9 := HL8.out
                  have e := wc_set { M with F := F2, w := w2 } t2 true ⟨A8, c8, F8⟩ ys
                  rw [HW3.out, show (true : Bool).toNat = 1 from rfl] at e
                  rw [e, ← HTE.out] at l9
                  have e3 : ({ t.pipe (t.s.go false) with w := up (up t.w true xs) true ys } : T10) = { t.pipe (t.s.go false) with w := up t.w true ys } := by rw [up_up]
                  rw [← e3]
                  exact l9)
                go_wp2_with fail
                go_roundw
                case rel => exact ⟨j + 1, hjl, by rw [← Nat.add_assoc, HHI.out]; go_num, HST2.out, HB8.out⟩
                case measure => simp [intOf]; omega
              · have hj2 : j = n := by omega
                have hiL : L - n + j = L := by omega
                have HM9 := Lib.hid (by
                  obtain ⟨F2, w2, hs2⟩ := hs2
                  have e : (t.s.news false).take j = t.s.news false := List.take_of_length_le (by rw [HNL.out]; omega)
                  rw [e, ← HWT.out.2] at hs2
                  exact HMID (t' := t.go false) (M' := { M with F := F2, w := w2 }) HP.out rfl hs2 HBS2.out)
                rw [hiL]
                clear hs2 hb2 hiL hj2 hjl
                go_wp2_with fail
                go_meet
                exact HM9.out
      · have q1 : (K == 1) = false := beq_eq_false_iff_ne.2 h1
        by_cases h2 : K = 2
        · have q2 : (K == 2) = true := beq_iff_eq.2 h2
          have HP := Lib.hid (show t.play false (⟨K, 0, N, x, S⟩ : Act10) = t.pipe (t.s.tick false) from by unfold T10.play; rw [if_neg h0, if_neg h1, if_pos h2])
          clear h0 h1 h2
          go_wp2_with fail
          refine (HL.out.act (tick_yes HL.out.pipe HL.out.le false)).mono ?_
          rintro e w6 ⟨rfl, F6, h6, hb6⟩
          have HM9 := Lib.hid (HMID HP.out rfl (M' := { M with F := F6 }) (by
            have l6 := h6
            rw [← HWT.out.1, ← HWT.out.2] at l6
            exact l6) (HB.out.trans hb6))
          clear h6 hb6
          go_wp2_with fail
          go_meet
          exact HM9.out
        · have q2 : (K == 2) = false := beq_eq_false_iff_ne.2 h2
          by_cases h3 : K = 3
          · have q3 : (K == 3) = true := beq_iff_eq.2 h3
            have HP := Lib.hid (show t.play false (⟨K, 0, N, x, S⟩ : Act10) = t.pipe (t.s.come false N) from by unfold T10.play; rw [if_neg h0, if_neg h1, if_neg h2, if_pos h3])
            have HNB := Lib.hid (show ¬ t.bad false N from fun h => HBAD.out ⟨h3, h⟩)
            clear h0 h1 h2 h3
            go_wp2_with fail
            refine (HL.out.act (look_yes HL.out.pipe HL.out.le false N)).mono ?_
            obtain ⟨lk, hlk⟩ : ∃ lk, t.s.look false N = lk := ⟨_, rfl⟩
            obtain ⟨ok, hok⟩ : ∃ ok, t.s.has false N = ok := ⟨_, rfl⟩
            rw [hlk, hok]
            have HLO := Lib.hid (And.intro hlk hok)
            rintro e w6 ⟨rfl, F6, h6, hb6⟩
            have h6 : St10 B { M with F := F6 } t (boxes5 w.heap.size (⟨K, 0, N, x, S⟩ : Act10) W T zero2 zero2 ++ X) w6 := h6
            have HL6 := Lib.hid h6
            have HB6 := Lib.hid (HB.out.trans hb6)
            obtain ⟨f, hf⟩ : ∃ f, Frame.get lk.data.toList = f := ⟨_, rfl⟩
            obtain ⟨E, hE⟩ : ∃ E, (Frame.why lk.data.toList).2 = E := ⟨_, rfl⟩
            have HFE := Lib.hid (And.intro hf hE)
            have HSZL := Lib.hid (show lk.size ≤ maxLen from by
              have : (t.s.look false N).size ≤ 100 := HZ.out.short.look _ _ _
              rw [hlk] at this
              unfold maxLen; omega)
            clear h6 hb6 hlk hok hf hE x0 x1 x2 x3 x4
            go_wp2_with fail
            refine (Frame.Get_is lk f E _ HSZL.out HFE.out.1.symm HFE.out.2.symm HL6.out.env.tab HL6.out.env.err).mono ?_
            rintro e w7 ⟨rfl, hb7⟩
            have h7 := HL6.out.after hb7
            have hba : Below w7.heap.size w7 (w7.alloc (.cells #[.int .i64 f.kind, .int .i64 f.epoch, .int .u64 f.seq, .int .u64 f.ack, .string f.body] 57)) := (Below.refl _ _).alloc (Nat.le_refl _) _
            have HL8 := Lib.hid (h7.after hba)
            have HB8 := Lib.hid ((HB6.out.trans (hb7.mono HL6.out.le)).trans (hba.mono h7.le))
            rw [show f.val = .agg #[.int .i64 f.kind, .int .i64 f.epoch, .int .u64 f.seq, .int .u64 f.ack, .string f.body] from rfl]
            have hx8 := HL8.out.x 4 rfl
            have x1 := cell_of_block hx8 1
            have x2 := cell_of_block hx8 2
            simp [Act10.cells] at x1 x2
            have y3 := (cell_of_block (HL8.out.x 3 rfl) 0).trans (show W[0]? = some (sl (M.w false) (t.w false).length) from by rw [← HWT.out.1]; rfl)
            unfold sl at y3
            have hwl := HZ.out.w false
            clear h7 hb7 hba hx8
            cases ok
            · go_wp2_with fail
              refine (HL8.out.act (come_yes HL8.out.pipe HL8.out.env HZ.out.short false (Nat.le_trans (HZ.out.g false) (by omega)) N)).mono ?_
              rintro e w9 ⟨rfl, F9, h9, hb9⟩
              have HM9 := Lib.hid (HMID HP.out rfl (M' := { M with F := F9 }) (by
                have l6 := h9
                rw [← HWT.out.1, ← HWT.out.2] at l6
                exact l6) (HB8.out.trans hb9))
              clear h9 hb9
              go_wp2_with fail
              go_meet
              exact HM9.out
            · by_cases hE : E = 0
              · have he : (E == 0) = true := beq_iff_eq.2 hE
                have HIN := Lib.hid (show lk ∈ t.w false from by
                  by_cases c : lk ∈ t.w false
                  · exact c
                  · refine absurd (show t.bad false N from ⟨?_, by rw [HLO.out.1]; exact c⟩) HNB.out
                    unfold PS.frameB
                    rw [HLO.out.1, HLO.out.2, HFE.out.2, hE]; rfl)
                clear hE
                go_wp2_with fail
                refine (in_any (HL8.out.wv false) (by show (t.w false).length ≤ 1000000; omega) lk).mono ?_
                rintro e w9 ⟨⟨r, rfl, hr⟩, rfl⟩
                obtain rfl : r = true := hr.2 HIN.out
                clear hr
                go_wp2_with fail
                refine (HL8.out.act (come_yes HL8.out.pipe HL8.out.env HZ.out.short false (Nat.le_trans (HZ.out.g false) (by omega)) N)).mono ?_
                rintro e w10 ⟨rfl, F9, h9, hb9⟩
                have HM9 := Lib.hid (HMID HP.out rfl (M' := { M with F := F9 }) (by
                  have l6 := h9
                  rw [← HWT.out.1, ← HWT.out.2] at l6
                  exact l6) (HB8.out.trans hb9))
                clear h9 hb9
                go_wp2_with fail
                go_meet
                exact HM9.out
              · have he : (E == 0) = false := beq_eq_false_iff_ne.2 hE
                clear hE
                go_wp2_with fail
                refine (HL8.out.act (come_yes HL8.out.pipe HL8.out.env HZ.out.short false (Nat.le_trans (HZ.out.g false) (by omega)) N)).mono ?_
                rintro e w9 ⟨rfl, F9, h9, hb9⟩
                have HM9 := Lib.hid (HMID HP.out rfl (M' := { M with F := F9 }) (by
                  have l6 := h9
                  rw [← HWT.out.1, ← HWT.out.2] at l6
                  exact l6) (HB8.out.trans hb9))
                clear h9 hb9
                go_wp2_with fail
                go_meet
                exact HM9.out
          · have q3 : (K == 3) = false := beq_eq_false_iff_ne.2 h3
            by_cases h4 : K = 4
            · have q4 : (K == 4) = true := beq_iff_eq.2 h4
              have HP := Lib.hid (show t.play false (⟨K, 0, N, x, S⟩ : Act10) = t.pipe (t.s.lose false N) from by unfold T10.play; rw [if_neg h0, if_neg h1, if_neg h2, if_neg h3, if_pos h4])
              clear h0 h1 h2 h3 h4
              go_wp2_with fail
              refine (HL.out.act (lose_yes HL.out.pipe HL.out.le false N)).mono ?_
              rintro e w6 ⟨rfl, F6, h6, hb6⟩
              have HM9 := Lib.hid (HMID HP.out rfl (M' := { M with F := F6 }) (by
                have l6 := h6
                rw [← HWT.out.1, ← HWT.out.2] at l6
                exact l6) (HB.out.trans hb6))
              clear h6 hb6
              go_wp2_with fail
              go_meet
              exact HM9.out
            · have q4 : (K == 4) = false := beq_eq_false_iff_ne.2 h4
              by_cases h5 : K = 5
              · have q5 : (K == 5) = true := beq_iff_eq.2 h5
                have HP := Lib.hid (show t.play false (⟨K, 0, N, x, S⟩ : Act10) = t.pipe (t.s.double false N) from by unfold T10.play; rw [if_neg h0, if_neg h1, if_neg h2, if_neg h3, if_neg h4, if_pos h5])
                clear h0 h1 h2 h3 h4 h5
                go_wp2_with fail
                refine (HL.out.act (double_yes HL.out.pipe HL.out.le false N)).mono ?_
                rintro e w6 ⟨rfl, F6, h6, hb6⟩
                have HM9 := Lib.hid (HMID HP.out rfl (M' := { M with F := F6 }) (by
                  have l6 := h6
                  rw [← HWT.out.1, ← HWT.out.2] at l6
                  exact l6) (HB.out.trans hb6))
                clear h6 hb6
                go_wp2_with fail
                go_meet
                exact HM9.out
              · have q5 : (K == 5) = false := beq_eq_false_iff_ne.2 h5
                have HP := Lib.hid (show t.play false (⟨K, 0, N, x, S⟩ : Act10) = t.pipe (t.s.flip false N x) from by unfold T10.play; rw [if_neg h0, if_neg h1, if_neg h2, if_neg h3, if_neg h4, if_neg h5])
                clear h0 h1 h2 h3 h4 h5
                go_wp2_with fail
                refine (HL.out.act (flip_yes HL.out.pipe HL.out.le false N x (by have : (t.s.look false N).size ≤ 100 := HZ.out.short.look _ _ _; omega))).mono ?_
                rintro e w6 ⟨rfl, F6, h6, hb6⟩
                have HM9 := Lib.hid (HMID HP.out rfl (M' := { M with F := F6 }) (by
                  have l6 := h6
                  rw [← HWT.out.1, ← HWT.out.2] at l6
                  exact l6) (HB.out.trans hb6))
                clear h6 hb6
                go_wp2_with fail
                go_meet
                exact HM9.out
  case rest =>
    obtain ⟨MR, hMP, hl, hb⟩ := hcut
    obtain ⟨tR, htR⟩ : ∃ tR, t.play false (⟨K, 0, N, x, S⟩ : Act10) = tR := ⟨_, rfl⟩
    rw [htR] at hl
    clear HWT x0 x1 x2 x3 x4 HBAD HZ HL HB HW5
    obtain ⟨W, hW⟩ : ∃ W, MR.wc tR = W := ⟨_, rfl⟩
    obtain ⟨T, hT⟩ : ∃ T, MR.tc tR = T := ⟨_, rfl⟩
    have HWT := Lib.hid (And.intro hW hT)
    rw [hW, hT] at hl
    have HLR := Lib.hid hl
    have HBR := Lib.hid hb
    have HMP := Lib.hid hMP
    have HTR := Lib.hid htR
    clear hl hb hMP hW hT htR
    go_upto_region 35 with fail
    refine' wp_flow [only 0 (.agg W), only 1 (.agg T), (fun _ v => St10 B MR tR (boxes5 w.heap.size (⟨K, 0, N, x, S⟩ : Act10) W T W zero2 ++ X) v ∧ Below B w v), (fun _ v => St10 B MR tR (boxes5 w.heap.size (⟨K, 0, N, x, S⟩ : Act10) W T W T ++ X) v ∧ Below B w v), only 4 _, (fun _ v => St10 B MR tR (boxes5 w.heap.size (⟨K, 0, N, x, S⟩ : Act10) W T zero2 zero2 ++ X) v ∧ Below B w v)] (fun v => v.heap[w.heap.size + 1]? = some (.cells W 29 (0, 0)) ∧ v.heap[w.heap.size + 1 + 1]? = some (.cells T 29 (0, 0))) [[], [], [0, 5], [1, 2], []] [[], [], [5], [2], []] [[], [], [], [], []] [[5], [2, 5], [], [], [2, 3, 5]] [2, 3, 5] [0, 0, 1, 7, 0] _ (fun us => ?hfr) (by kernel_rfl) (by kernel_rfl) (by kernel_rfl) ⟨only_still _, only_still _, trivial, trivial, only_still _, trivial, trivial⟩ (⟨HLR.out.x 3 rfl, HLR.out.x 2 rfl⟩) (by simp) (⟨HLR.out.after (below_drewN (Below.refl _ _) 1), below_drewN HBR.out 1⟩) ?hst ?hla
    case hfr => (simp only [List.cons_append, List.nil_append, putAll, Act.put, List.setIfInBounds_toArray, List.set_cons_zero, List.set_cons_succ, Nat.reduceAdd]; rfl)
    case hst =>
      refine ⟨?_, ?_, ?_, ?_, ?_, trivial⟩
      · intro us v hR hn ho K hK
        clear ho
        skip
        have hcs : (Tryd.prog.info? 29).map (·.size) = some W.size := by rw [← HWT.out.1]; kernel_rfl
        rw [if_pos (by rfl)]
        refine wp_load_row 29 _ (by rfl) (w.heap.size + 1) (by rfl) 29 W (0, 0) _ hR.1 Tryd.underlying29 rfl hcs ?_
        refine hK _ _ _ (by simp only [Act.put, List.setIfInBounds_toArray, List.set_cons_zero, List.set_cons_succ, Nat.reduceAdd] <;> rfl) ?_ hR ⟨fun h => h, trivial⟩
        exact only_mk (v := v) rfl
      · intro us v hR hn ho K hK
        clear ho
        skip
        have hcs : (Tryd.prog.info? 29).map (·.size) = some T.size := by rw [← HWT.out.2]; kernel_rfl
        rw [if_pos (by rfl)]
        refine wp_load_row 29 _ (by rfl) (w.heap.size + 1 + 1) (by rfl) 29 T (0, 0) _ hR.2 Tryd.underlying29 rfl hcs ?_
        refine hK _ _ _ (by simp only [Act.put, List.setIfInBounds_toArray, List.set_cons_zero, List.set_cons_succ, Nat.reduceAdd] <;> rfl) ?_ hR ⟨fun h => h, fun h => h, trivial⟩
        exact only_mk (v := v) rfl
      · intro us v hR hn ho K hK
        obtain ⟨n0, ns, -⟩ := hn
        have n0 : us 0 = _ := n0
        clear ho
        skip
        obtain ⟨l1, l2⟩ := ns
        rw [if_pos (by rfl)]
        refine wp_store_all 29 (.tmp 8) (.tmp 170) (by rfl) (w.heap.size + 1 + 1 + 1) zero2 W 29 (by rfl) n0 (l1.x 1 rfl) (by rw [← HWT.out.1]; rfl) (by rw [← HWT.out.1]; kernel_rfl) (by rw [← HWT.out.1]; exact (two_one MR tR).1) ?_
        intro v' hq hk
        obtain ⟨k1, k2⟩ := l1.boxAll 1 rfl hq hk
        exact hK undef _ _ (by simp only [Act.put, List.setIfInBounds_toArray, List.set_cons_zero, List.set_cons_succ, Nat.reduceAdd, n0, n0] <;> rfl) ⟨k1, l2.trans k2⟩ ⟨k1.x 3 rfl, k1.x 2 rfl⟩ trivial
      · intro us v hR hn ho K hK
        obtain ⟨n1, n2, -⟩ := hn
        have n1 : us 1 = _ := n1
        clear ho
        skip
        obtain ⟨l1, l2⟩ := n2
        rw [if_pos (by rfl)]
        refine wp_store_all 29 (.tmp 9) (.tmp 171) (by rfl) (w.heap.size + 1 + 1 + 1 + 1) zero2 T 29 (by rfl) n1 (l1.x 0 rfl) (by rw [← HWT.out.2]; rfl) (by rw [← HWT.out.2]; kernel_rfl) (by rw [← HWT.out.2]; exact (two_one MR tR).2) ?_
        intro v' hq hk
        obtain ⟨k1, k2⟩ := l1.boxAll 0 rfl hq hk
        exact hK undef _ _ (by simp only [Act.put, List.setIfInBounds_toArray, List.set_cons_zero, List.set_cons_succ, Nat.reduceAdd, n1, n1] <;> rfl) ⟨k1, l2.trans k2⟩ ⟨k1.x 3 rfl, k1.x 2 rfl⟩ trivial
      · intro us v hR hn ho K hK
        clear ho
        skip
        rw [if_pos (by rfl)]
        go_simp
        refine hK _ _ _ (by simp only [Act.put, List.setIfInBounds_toArray, List.set_cons_zero, List.set_cons_succ, Nat.reduceAdd] <;> rfl) ?_ hR ⟨fun h => h, fun h => h, fun h => h, trivial⟩
        refine only_mk (v := v) ?_
        with_reducible rfl
    case hla =>
      intro us v hR hl
      obtain ⟨n0, n1, n3, n4, -⟩ := need_last hl [0, 1, 3, 4] (by kernel_rfl)
      have n0 : us 0 = _ := n0
      have n1 : us 1 = _ := n1
      have n4 : us 4 = _ := n4
      skip
      simp only [n0, n1, n4]
      clear hl n0 n1 n4
      obtain ⟨l3, b3⟩ := n3
      have HL3 := Lib.hid l3
      have HB3 := Lib.hid b3
      clear l3 b3 hR
      go_wp2_with fail
      refine ret_two Tryd.results11 (w.heap.size + 1 + 1 + 1) (w.heap.size + 1 + 1 + 1 + 1) 29 29 W T _ (.bool true) rfl (HL3.out.x 1 rfl) rfl (HL3.out.x 0 rfl) rfl Tryd.underlying29 rfl (by rw [← HWT.out.1]; kernel_rfl) (by rw [← HWT.out.2]; kernel_rfl) rfl ?_
      have hfin : PlaySaid B M.p X tR true w (.returned (.tuple #[.agg W, .agg T, .bool true])) v := by
        refine ⟨MR, HMP.out, by first | (rw [← HWT.out.1, ← HWT.out.2]; done) | (rw [← HWT.out.1, ← HWT.out.2]; rfl), HL3.out.drop (Y := boxes5 w.heap.size (⟨K, 0, N, x, S⟩ : Act10) W T W T), HB3.out⟩
      rw [HTR.out]; exact hfin
set_option maxRecDepth 100000 in
set_option maxHeartbeats 16000000 in
theorem bad_false (h : St10 B M t X w) (hz : Sz10 t) (N x : Int) (S : ByteArray) (hbad : t.bad false N) :
    Calls Tryd.prog 11 #[.pointer (some ⟨M.p, 0, none⟩), .agg (⟨3, 0, N, x, S⟩ : Act10).cells.toArray, .agg (M.wc t), .agg (M.tc t)] w (PlaySaid B M.p X t false w) := by
  obtain ⟨i0, hi0, hz0, hz1, hz2⟩ := info_parts Link.str_info
  obtain ⟨W, hW⟩ : ∃ W, M.wc t = W := ⟨_, rfl⟩
  obtain ⟨T, hT⟩ : ∃ T, M.tc t = T := ⟨_, rfl⟩
  obtain ⟨w5, hw5⟩ : ∃ w5, ((((w.alloc (.cells (⟨3, 0, N, x, S⟩ : Act10).cells.toArray 33)).alloc (.cells W 29)).alloc (.cells T 29)).alloc (.cells zero2 29)).alloc (.cells zero2 29) = w5 := ⟨_, rfl⟩
  obtain ⟨hl, hb⟩ := h.boxes (⟨3, 0, N, x, S⟩ : Act10) W T
  rw [hw5] at hl hb
  unfold zero2 at hw5
  simp only [Act10.cells] at hw5
  have HW5 := Lib.hid hw5
  have HL := Lib.hid hl
  have HB := Lib.hid (hb.mono h.le)
  have HWT := Lib.hid (And.intro hW hT)
  have HZ := Lib.hid hz
  have HBAD := Lib.hid hbad
  have HOK := Lib.hid h.pipe.netOk
  have HEO := Lib.hid (h.pipe.endOk false)
  rw [hW, hT]
  have hx := hl.x 4 rfl
  have x0 := cell_of_block hx 0
  have x1 := cell_of_block hx 1
  have x2 := cell_of_block hx 2
  have x3 := cell_of_block hx 3
  have x4 := cell_of_block hx 4
  simp [Act10.cells] at x0 x1 x2 x3 x4
  simp only [Act10.cells]
  clear hl hb hw5 hW hT h hz hx hbad
  go_enter Tryd.func11, Tryd.ntmps11
  go_upto_region 1 with fail
  rw [HW5.out]
  go_wp2_with fail
  refine (HL.out.act (look_yes HL.out.pipe HL.out.le false N)).mono ?_
  obtain ⟨lk, hlk⟩ : ∃ lk, t.s.look false N = lk := ⟨_, rfl⟩
  obtain ⟨ok, hok⟩ : ∃ ok, t.s.has false N = ok := ⟨_, rfl⟩
  rw [hlk, hok]
  have HLO := Lib.hid (And.intro hlk hok)
  rintro e w6 ⟨rfl, F6, h6, hb6⟩
  have h6 : St10 B { M with F := F6 } t (boxes5 w.heap.size (⟨3, 0, N, x, S⟩ : Act10) W T zero2 zero2 ++ X) w6 := h6
  have HL6 := Lib.hid h6
  have HB6 := Lib.hid (HB.out.trans hb6)
  obtain ⟨f, hf⟩ : ∃ f, Frame.get lk.data.toList = f := ⟨_, rfl⟩
  obtain ⟨E, hE⟩ : ∃ E, (Frame.why lk.data.toList).2 = E := ⟨_, rfl⟩
  have HFE := Lib.hid (And.intro hf hE)
  have HSZL := Lib.hid (show lk.size ≤ maxLen from by
    have : (t.s.look false N).size ≤ 100 := HZ.out.short.look _ _ _
    rw [hlk] at this
    unfold maxLen; omega)
  clear h6 hb6 hlk hok hf hE x0 x1 x2 x3 x4
  go_wp2_with fail
  refine (Frame.Get_is lk f E _ HSZL.out HFE.out.1.symm HFE.out.2.symm HL6.out.env.tab HL6.out.env.err).mono ?_
  rintro e w7 ⟨rfl, hb7⟩
  have h7 := HL6.out.after hb7
  have hba : Below w7.heap.size w7 (w7.alloc (.cells #[.int .i64 f.kind, .int .i64 f.epoch, .int .u64 f.seq, .int .u64 f.ack, .string f.body] 57)) := (Below.refl _ _).alloc (Nat.le_refl _) _
  have HL8 := Lib.hid (h7.after hba)
  have HB8 := Lib.hid ((HB6.out.trans (hb7.mono HL6.out.le)).trans (hba.mono h7.le))
  rw [show f.val = .agg #[.int .i64 f.kind, .int .i64 f.epoch, .int .u64 f.seq, .int .u64 f.ack, .string f.body] from rfl]
  have hx8 := HL8.out.x 4 rfl
  have x1 := cell_of_block hx8 1
  have x2 := cell_of_block hx8 2
  simp [Act10.cells] at x1 x2
  have y3 := (cell_of_block (HL8.out.x 3 rfl) 0).trans (show W[0]? = some (sl (M.w false) (t.w false).length) from by rw [← HWT.out.1]; rfl)
  unfold sl at y3
  have hwl := HZ.out.w false
  clear h7 hb7 hba hx8
  have hok2 : ok = true := by
    have := HBAD.out.1
    unfold PS.frameB at this
    rw [HLO.out.2] at this
    cases ok <;> simp at this ⊢
  have hE : E = 0 := by
    have := HBAD.out.1
    unfold PS.frameB at this
    rw [HLO.out.1, HFE.out.2] at this
    simp at this
    exact this.2
  subst hok2
  subst hE
  go_wp2_with fail
  refine (in_any (HL8.out.wv false) (by show (t.w false).length ≤ 1000000; omega) lk).mono ?_
  rintro e w9 ⟨⟨r, rfl, hr⟩, rfl⟩
  obtain rfl : r = false := by
    cases r
    · rfl
    · exact absurd (hr.1 rfl) (by rw [← HLO.out.1]; exact HBAD.out.2)
  clear hr
  go_wp2_with fail
  clear x1 x2 y3
  obtain ⟨w8, hw8⟩ : ∃ w8, w7.alloc (.cells #[.int .i64 f.kind, .int .i64 f.epoch, .int .u64 f.seq, .int .u64 f.ack, .string f.body] 57) = w8 := ⟨_, rfl⟩
  have HLR := HL8
  have HBR := HB8
  refine' wp_flow [only 0 (.agg W), only 1 (.agg T), (fun _ v => St10 B { M with F := F6 } t (boxes5 w.heap.size (⟨3, 0, N, x, S⟩ : Act10) W T W zero2 ++ X) v ∧ Below B w v), (fun _ v => St10 B { M with F := F6 } t (boxes5 w.heap.size (⟨3, 0, N, x, S⟩ : Act10) W T W T ++ X) v ∧ Below B w v), only 4 _, (fun _ v => St10 B { M with F := F6 } t (boxes5 w.heap.size (⟨3, 0, N, x, S⟩ : Act10) W T zero2 zero2 ++ X) v ∧ Below B w v)] (fun v => v.heap[w.heap.size + 1]? = some (.cells W 29 (0, 0)) ∧ v.heap[w.heap.size + 1 + 1]? = some (.cells T 29 (0, 0))) [[], [], [0, 5], [1, 2], []] [[], [], [5], [2], []] [[], [], [], [], []] [[5], [2, 5], [], [], [2, 3, 5]] [2, 3, 5] [0, 0, 1, 7, 0] _ (fun us => ?hfr) (by kernel_rfl) (by kernel_rfl) (by kernel_rfl) ⟨only_still _, only_still _, trivial, trivial, only_still _, trivial, trivial⟩ (⟨HLR.out.x 3 rfl, HLR.out.x 2 rfl⟩) (by simp) (⟨HLR.out.after (below_drewN (Below.refl _ _) 1), below_drewN HBR.out 1⟩) ?hst ?hla
  case hfr => (simp only [List.cons_append, List.nil_append, putAll, Act.put, List.setIfInBounds_toArray, List.set_cons_zero, List.set_cons_succ, Nat.reduceAdd]; rfl)
  case hst =>
    refine ⟨?_, ?_, ?_, ?_, ?_, trivial⟩
    · intro us v hR hn ho K hK
      clear ho
      skip
      have hcs : (Tryd.prog.info? 29).map (·.size) = some W.size := by rw [← HWT.out.1]; kernel_rfl
      rw [if_pos (by rfl)]
      refine wp_load_row 29 _ (by rfl) (w.heap.size + 1) (by rfl) 29 W (0, 0) _ hR.1 Tryd.underlying29 rfl hcs ?_
      refine hK _ _ _ (by simp only [Act.put, List.setIfInBounds_toArray, List.set_cons_zero, List.set_cons_succ, Nat.reduceAdd] <;> rfl) ?_ hR ⟨fun h => h, trivial⟩
      exact only_mk (v := v) rfl
    · intro us v hR hn ho K hK
      clear ho
      skip
      have hcs : (Tryd.prog.info? 29).map (·.size) = some T.size := by rw [← HWT.out.2]; kernel_rfl
      rw [if_pos (by rfl)]
      refine wp_load_row 29 _ (by rfl) (w.heap.size + 1 + 1) (by rfl) 29 T (0, 0) _ hR.2 Tryd.underlying29 rfl hcs ?_
      refine hK _ _ _ (by simp only [Act.put, List.setIfInBounds_toArray, List.set_cons_zero, List.set_cons_succ, Nat.reduceAdd] <;> rfl) ?_ hR ⟨fun h => h, fun h => h, trivial⟩
      exact only_mk (v := v) rfl
    · intro us v hR hn ho K hK
      obtain ⟨n0, ns, -⟩ := hn
      have n0 : us 0 = _ := n0
      clear ho
      skip
      obtain ⟨l1, l2⟩ := ns
      rw [if_pos (by rfl)]
      refine wp_store_all 29 (.tmp 8) (.tmp 146) (by rfl) (w.heap.size + 1 + 1 + 1) zero2 W 29 (by rfl) n0 (l1.x 1 rfl) (by rw [← HWT.out.1]; rfl) (by rw [← HWT.out.1]; kernel_rfl) (by rw [← HWT.out.1]; exact (two_one { M with F := F6 } t).1) ?_
      intro v' hq hk
      obtain ⟨k1, k2⟩ := l1.boxAll 1 rfl hq hk
      exact hK undef _ _ (by simp only [Act.put, List.setIfInBounds_toArray, List.set_cons_zero, List.set_cons_succ, Nat.reduceAdd, n0, n0] <;> rfl) ⟨k1, l2.trans k2⟩ ⟨k1.x 3 rfl, k1.x 2 rfl⟩ trivial
    · intro us v hR hn ho K hK
      obtain ⟨n1, n2, -⟩ := hn
      have n1 : us 1 = _ := n1
      clear ho
      skip
      obtain ⟨l1, l2⟩ := n2
      rw [if_pos (by rfl)]
      refine wp_store_all 29 (.tmp 9) (.tmp 147) (by rfl) (w.heap.size + 1 + 1 + 1 + 1) zero2 T 29 (by rfl) n1 (l1.x 0 rfl) (by rw [← HWT.out.2]; rfl) (by rw [← HWT.out.2]; kernel_rfl) (by rw [← HWT.out.2]; exact (two_one { M with F := F6 } t).2) ?_
      intro v' hq hk
      obtain ⟨k1, k2⟩ := l1.boxAll 0 rfl hq hk
      exact hK undef _ _ (by simp only [Act.put, List.setIfInBounds_toArray, List.set_cons_zero, List.set_cons_succ, Nat.reduceAdd, n1, n1] <;> rfl) ⟨k1, l2.trans k2⟩ ⟨k1.x 3 rfl, k1.x 2 rfl⟩ trivial
    · intro us v hR hn ho K hK
      clear ho
      skip
      rw [if_pos (by rfl)]
      go_simp
      refine hK _ _ _ (by simp only [Act.put, List.setIfInBounds_toArray, List.set_cons_zero, List.set_cons_succ, Nat.reduceAdd] <;> rfl) ?_ hR ⟨fun h => h, fun h => h, fun h => h, trivial⟩
      refine only_mk (v := v) ?_
      with_reducible rfl
  case hla =>
    intro us v hR hl
    obtain ⟨n0, n1, n3, n4, -⟩ := need_last hl [0, 1, 3, 4] (by kernel_rfl)
    have n0 : us 0 = _ := n0
    have n1 : us 1 = _ := n1
    have n4 : us 4 = _ := n4
    skip
    simp only [n0, n1, n4]
    clear hl n0 n1 n4
    obtain ⟨l3, b3⟩ := n3
    have HL3 := Lib.hid l3
    have HB3 := Lib.hid b3
    clear l3 b3 hR
    go_wp2_with fail
    refine ret_two Tryd.results11 (w.heap.size + 1 + 1 + 1) (w.heap.size + 1 + 1 + 1 + 1) 29 29 W T _ (.bool false) rfl (HL3.out.x 1 rfl) rfl (HL3.out.x 0 rfl) rfl Tryd.underlying29 rfl (by rw [← HWT.out.1]; kernel_rfl) (by rw [← HWT.out.2]; kernel_rfl) rfl ?_
    have hfin : PlaySaid B M.p X t false w (.returned (.tuple #[.agg W, .agg T, .bool false])) v := by
      refine ⟨{ M with F := F6 }, rfl, by first | (rw [← HWT.out.1, ← HWT.out.2]; done) | (rw [← HWT.out.1, ← HWT.out.2]; rfl), HL3.out.drop (Y := boxes5 w.heap.size (⟨3, 0, N, x, S⟩ : Act10) W T W T), HB3.out⟩
    exact hfin


/-- while the bytes that went are told -/
def L2false (B : Nat) (M : M10) (t : T10) (a : Act10) (X : List Thing) (T : Array Value) (b j : Nat) (wr : World) : Prop :=
  ∃ F' wf, St10 B { M with F := F', w := wf } { t.pipe (t.s.go true) with w := up t.w false (t.w false ++ (t.s.news true).take j) } (boxes5 b a (M10.wc { M with F := F', w := wf } { t.pipe (t.s.go true) with w := up t.w false (t.w false ++ (t.s.news true).take j) }) T zero2 zero2 ++ X) wr
set_option maxRecDepth 100000 in
set_option maxHeartbeats 16000000 in
theorem play_true (h : St10 B M t X w) (hz : Sz10 t) (K N x : Int) (S : ByteArray) (hbad : ¬ (K = 3 ∧ t.bad true N)) :
    Calls Tryd.prog 11 #[.pointer (some ⟨M.p, 0, none⟩), .agg (⟨K, 1, N, x, S⟩ : Act10).cells.toArray, .agg (M.wc t), .agg (M.tc t)] w (PlaySaid B M.p X (t.play true (⟨K, 1, N, x, S⟩ : Act10)) true w) := by
  obtain ⟨i0, hi0, hz0, hz1, hz2⟩ := info_parts Link.str_info
  obtain ⟨W, hW⟩ : ∃ W, M.wc t = W := ⟨_, rfl⟩
  obtain ⟨T, hT⟩ : ∃ T, M.tc t = T := ⟨_, rfl⟩
  obtain ⟨w5, hw5⟩ : ∃ w5, ((((w.alloc (.cells (⟨K, 1, N, x, S⟩ : Act10).cells.toArray 33)).alloc (.cells W 29)).alloc (.cells T 29)).alloc (.cells zero2 29)).alloc (.cells zero2 29) = w5 := ⟨_, rfl⟩
  obtain ⟨hl, hb⟩ := h.boxes (⟨K, 1, N, x, S⟩ : Act10) W T
  rw [hw5] at hl hb
  unfold zero2 at hw5
  simp only [Act10.cells] at hw5
  have HW5 := Lib.hid hw5
  have HL := Lib.hid hl
  have HB := Lib.hid (hb.mono h.le)
  have HWT := Lib.hid (And.intro hW hT)
  have HZ := Lib.hid hz
  have HBAD := Lib.hid hbad
  have HOK := Lib.hid h.pipe.netOk
  have HEO := Lib.hid (h.pipe.endOk true)
  rw [hW, hT]
  have hx := hl.x 4 rfl
  have x0 := cell_of_block hx 0
  have x1 := cell_of_block hx 1
  have x2 := cell_of_block hx 2
  have x3 := cell_of_block hx 3
  have x4 := cell_of_block hx 4
  simp [Act10.cells] at x0 x1 x2 x3 x4
  simp only [Act10.cells]
  clear hl hb hw5 hW hT h hz hx hbad
  go_enter Tryd.func11, Tryd.ntmps11
  go_upto_region 1 with fail
  rw [HW5.out]
  go_upto_block 0 with fail
  go_cut [] (fun wx => PlayMid B M.p X (t.play true (⟨K, 1, N, x, S⟩ : Act10)) (⟨K, 1, N, x, S⟩ : Act10) w wx)
  case first =>
    have HMID : ∀ {t' : T10} {M' : M10} {v : World}, t.play true (⟨K, 1, N, x, S⟩ : Act10) = t' → M'.p = M.p → St10 B M' t' (boxes5 w.heap.size (⟨K, 1, N, x, S⟩ : Act10) (M'.wc t') (M'.tc t') zero2 zero2 ++ X) v → Below B w v → PlayMid B M.p X (t.play true (⟨K, 1, N, x, S⟩ : Act10)) (⟨K, 1, N, x, S⟩ : Act10) w v := fun e hp h1 h2 => ⟨_, hp, by rw [e]; exact h1, h2⟩
    by_cases h0 : K = 0
    · have q0 : (K == 0) = true := beq_iff_eq.2 h0
      have HP := Lib.hid (show t.play true (⟨K, 1, N, x, S⟩ : Act10) = t.send true S from by unfold T10.play; rw [if_pos h0])
      clear h0
      go_wp2_with fail
      refine (HL.out.act (send_yes HL.out.pipe HL.out.le true S)).mono ?_
      obtain ⟨E, hE⟩ : ∃ E, (t.s.e true).sendE S = E := ⟨_, rfl⟩
      rw [hE]
      have HE := Lib.hid hE
      clear hE
      rintro e w6 ⟨rfl, F6, h6, hb6⟩
      have HL6 := Lib.hid h6
      have HB6 := Lib.hid (HB.out.trans hb6)
      clear h6 hb6
      by_cases hE : E = 0
      · have q1 : (E == 0) = true := beq_iff_eq.2 hE
        obtain ⟨ys, hys⟩ : ∃ ys, t.t true ++ [S] = ys := ⟨_, rfl⟩
        have HYL := Lib.hid (show (t.t true).length + 1 = ys.length from by rw [← hys]; simp)
        have HYM := Lib.hid (show (t.t true).map Value.string ++ [.string S] = ys.map .string from by rw [← hys]; simp)
        have HP2 := Lib.hid (show t.send true S = { t.pipe (t.s.send true S) with t := up t.t true ys } from by unfold T10.send T10.pipe; rw [HE.out, if_pos hE, hys])
        have HTC := Lib.hid (show T[1]? = some (sl (M.t true) (t.t true).length) from by rw [← HWT.out.2]; rfl)
        have htl := HZ.out.t true
        clear hE hys
        go_wp2_with fail
        refine' wp_flow [only 0 _, only 1 _, only 2 _, only 3 _, only 4 _, only 5 (.slice (M.t true).A (t.t true).length (M.t true).c), only 6 _, only 7 (.string S), (fun us v => ∃ g, us 8 = .slice (some ⟨g, 0, none⟩) 1 1 ∧ v.heap[g]? = some (.cells #[.string S] 9 (0, 0))), (fun us v => ∃ arr : Arr, us 9 = sl arr ys.length ∧ St10 B { M with F := F6, t := up M.t true arr } { t.pipe (t.s.send true S) with t := up t.t true ys } (boxes5 w.heap.size (⟨K, 1, N, x, S⟩ : Act10) W T zero2 zero2 ++ X) v ∧ Below B w v), only 10 _, (fun _ v => ∃ arr : Arr, St10 B { M with F := F6, t := up M.t true arr } { t.pipe (t.s.send true S) with t := up t.t true ys } (boxes5 w.heap.size (⟨K, 1, N, x, S⟩ : Act10) W (T.setIfInBounds 1 (sl arr ys.length)) zero2 zero2 ++ X) v ∧ Below B w v), (fun _ v => St10 B { M with F := F6 } (t.pipe (t.s.send true S)) (boxes5 w.heap.size (⟨K, 1, N, x, S⟩ : Act10) W T zero2 zero2 ++ X) v ∧ Below B w v)] (fun v => v.heap[w.heap.size]? = some (.cells #[.int .i64 K, .int .i64 1, .int .i64 N, .int .i64 x, .string S] 33 (0, 0))) [[], [0], [], [2], [3], [4, 12], [], [6], [7], [5, 8, 12], [1], [9, 10]] [[], [], [], [], [], [], [], [], [], [8, 12], [], [9]] [[], [], [], [], [], [], [], [], [], [], [], []] [[8, 9, 12], [8, 9, 12], [8, 12], [8, 12], [8, 12], [8, 12], [12], [12], [12], [], [8, 9, 12], []] [8, 9, 11, 12] [0, 1, 0, 4, 12, 28, 0, 64, 192, 508, 3, 2047] _ (fun us => ?hfr) (by kernel_rfl) (by kernel_rfl) (by kernel_rfl) ⟨only_still _, only_still _, only_still _, only_still _, only_still _, only_still _, only_still _, only_still _, trivial, trivial, only_still _, trivial, trivial, trivial⟩ ((HL6.out.x 4 rfl)) (by simp) (⟨HL6.out.after (below_drewN (Below.refl _ _) 1), below_drewN HB6.out 1⟩) ?hst ?hla
        case hfr => (simp only [List.cons_append, List.nil_append, putAll, Act.put, List.setIfInBounds_toArray, List.set_cons_zero, List.set_cons_succ, Nat.reduceAdd]; rfl)
        case hst =>
          refine ⟨?_, ?_, ?_, ?_, ?_, ?_, ?_, ?_, ?_, ?_, ?_, ?_, trivial⟩
          · intro us v hR hn ho K hK
            clear ho
            have z1 := cell_of_block hR 1; have z4 := cell_of_block hR 4; simp at z1 z4
            rw [if_pos (by rfl)]
            go_simp
            refine hK _ _ _ (by simp only [Act.put, List.setIfInBounds_toArray, List.set_cons_zero, List.set_cons_succ, Nat.reduceAdd] <;> rfl) ?_ hR ⟨fun h => h, fun h => h, fun h => h, trivial⟩
            refine only_mk (v := v) ?_
            with_reducible rfl
          · intro us v hR hn ho K hK
            obtain ⟨n0, -⟩ := hn
            have n0 : us 0 = _ := n0
            clear ho
            have z1 := cell_of_block hR 1; have z4 := cell_of_block hR 4; simp at z1 z4
            rw [if_pos (by rfl)]
            go_simp
            refine hK _ _ _ (by simp only [Act.put, List.setIfInBounds_toArray, List.set_cons_zero, List.set_cons_succ, Nat.reduceAdd, n0] <;> rfl) ?_ hR ⟨fun h => h, fun h => h, fun h => h, trivial⟩
            refine only_mk (v := v) ?_
            with_reducible rfl
          · intro us v hR hn ho K hK
            clear ho
            have z1 := cell_of_block hR 1; have z4 := cell_of_block hR 4; simp at z1 z4
            rw [if_pos (by rfl)]
            go_simp
            refine hK _ _ _ (by simp only [Act.put, List.setIfInBounds_toArray, List.set_cons_zero, List.set_cons_succ, Nat.reduceAdd] <;> rfl) ?_ hR ⟨fun h => h, fun h => h, trivial⟩
            refine only_mk (v := v) ?_
            with_reducible rfl
          · intro us v hR hn ho K hK
            obtain ⟨n2, -⟩ := hn
            have n2 : us 2 = _ := n2
            clear ho
            have z1 := cell_of_block hR 1; have z4 := cell_of_block hR 4; simp at z1 z4
            rw [if_pos (by rfl)]
            go_simp
            refine hK _ _ _ (by simp only [Act.put, List.setIfInBounds_toArray, List.set_cons_zero, List.set_cons_succ, Nat.reduceAdd, n2] <;> rfl) ?_ hR ⟨fun h => h, fun h => h, trivial⟩
            refine only_mk (v := v) ?_
            with_reducible rfl
          · intro us v hR hn ho K hK
            obtain ⟨n3, -⟩ := hn
            have n3 : us 3 = _ := n3
            clear ho
            have z1 := cell_of_block hR 1; have z4 := cell_of_block hR 4; simp at z1 z4
            rw [if_pos (by rfl)]
            go_simp
            refine hK _ _ _ (by simp only [Act.put, List.setIfInBounds_toArray, List.set_cons_zero, List.set_cons_succ, Nat.reduceAdd, n3] <;> rfl) ?_ hR ⟨fun h => h, fun h => h, trivial⟩
            refine only_mk (v := v) ?_
            with_reducible rfl
          · intro us v hR hn ho K hK
            obtain ⟨n4, ns, -⟩ := hn
            have n4 : us 4 = _ := n4
            clear ho
            have z1 := cell_of_block hR 1; have z4 := cell_of_block hR 4; simp at z1 z4
            have y0 := (cell_of_block (ns.1.x 2 rfl) 1).trans HTC.out
            unfold sl at y0
            rw [if_pos (by rfl)]
            go_simp
            refine hK _ _ _ (by simp only [Act.put, List.setIfInBounds_toArray, List.set_cons_zero, List.set_cons_succ, Nat.reduceAdd, n4] <;> rfl) ?_ hR ⟨fun h => h, fun h => h, trivial⟩
            refine only_mk (v := v) ?_
            with_reducible rfl
          · intro us v hR hn ho K hK
            clear ho
            have z1 := cell_of_block hR 1; have z4 := cell_of_block hR 4; simp at z1 z4
            rw [if_pos (by rfl)]
            go_simp
            refine hK _ _ _ (by simp only [Act.put, List.setIfInBounds_toArray, List.set_cons_zero, List.set_cons_succ, Nat.reduceAdd] <;> rfl) ?_ hR ⟨fun h => h, trivial⟩
            refine only_mk (v := v) ?_
            with_reducible rfl
          · intro us v hR hn ho K hK
            obtain ⟨n6, -⟩ := hn
            have n6 : us 6 = _ := n6
            clear ho
            have z1 := cell_of_block hR 1; have z4 := cell_of_block hR 4; simp at z1 z4
            rw [if_pos (by rfl)]
            go_simp
            refine hK _ _ _ (by simp only [Act.put, List.setIfInBounds_toArray, List.set_cons_zero, List.set_cons_succ, Nat.reduceAdd, n6] <;> rfl) ?_ hR ⟨fun h => h, trivial⟩
            refine only_mk (v := v) ?_
            with_reducible rfl
          · intro us v hR hn ho K hK
            obtain ⟨n7, -⟩ := hn
            have n7 : us 7 = _ := n7
            clear ho
            have z1 := cell_of_block hR 1; have z4 := cell_of_block hR 4; simp at z1 z4
            rw [if_pos (by rfl)]
            have hba : Below v.heap.size v (v.alloc (.cells #[.string S] 9)) := (Below.refl _ _).alloc (Nat.le_refl _) _
            have hr2 := (hba.block _ (lt_of_block hR)).trans hR
            have HR2 := Lib.hid hr2
            clear hr2
            go_simp
            exact hK _ _ _ (by simp only [Act.put, List.setIfInBounds_toArray, List.set_cons_zero, List.set_cons_succ, Nat.reduceAdd, n7] <;> rfl) ⟨_, rfl, heap_alloc_new v _⟩ HR2.out ⟨fun h => ⟨h.1.after hba, h.2.trans (hba.mono h.1.le)⟩, trivial⟩
          · intro us v hR hn ho K hK
            obtain ⟨n5, n8, ns, -⟩ := hn
            have n5 : us 5 = _ := n5
            clear ho
            have z1 := cell_of_block hR 1; have z4 := cell_of_block hR 4; simp at z1 z4
            obtain ⟨g9, n8, hg9⟩ := n8
            obtain ⟨l1, l2⟩ := ns
            refine step_append_vec _ (by rfl) (.tmp 58) (.tmp 61) 28 28 (by rfl) 9 i0 _ 1 16 Tryd.underlying28 hi0 hz0 hz1 hz2 rfl (M.t true).F (M.t true).A (t.t true).length (M.t true).c ((t.t true).map .string) (.slice (some ⟨g9, 0, none⟩) 1 1) 1 [.string S] n5 n8 (l1.tv true) (src_new _ Tryd.underlying28 [.string S] 1 1 1 rfl (by simp [Value.oneCell']) _ hg9) (by unfold maxLen; omega) (by omega) ?_
            intro v' w8 happ
            rw [HYL.out, HYM.out] at happ
            obtain ⟨F7, A7, c7, rfl, hv7, ht7⟩ := happ.all
            obtain ⟨k1, k2⟩ := l1.setT (me := true) (a := ⟨A7, c7, F7⟩) (l := ys) hv7 ht7
            exact hK _ _ _ (by simp only [Act.put, List.setIfInBounds_toArray, List.set_cons_zero, List.set_cons_succ, Nat.reduceAdd, n5, n5, n8] <;> rfl) ⟨⟨A7, c7, F7⟩, rfl, k1, l2.trans k2⟩ (k1.x 4 rfl) trivial
          · intro us v hR hn ho K hK
            obtain ⟨n1, -⟩ := hn
            have n1 : us 1 = _ := n1
            clear ho
            have z1 := cell_of_block hR 1; have z4 := cell_of_block hR 4; simp at z1 z4
            rw [if_pos (by rfl)]
            go_simp
            refine hK _ _ _ (by simp only [Act.put, List.setIfInBounds_toArray, List.set_cons_zero, List.set_cons_succ, Nat.reduceAdd, n1] <;> rfl) ?_ hR ⟨fun h => h, fun h => h, fun h => h, trivial⟩
            refine only_mk (v := v) ?_
            with_reducible rfl
          · intro us v hR hn ho K hK
            obtain ⟨n9, n10, -⟩ := hn
            have n10 : us 10 = _ := n10
            clear ho
            have z1 := cell_of_block hR 1; have z4 := cell_of_block hR 4; simp at z1 z4
            obtain ⟨arr, n9, l1, l2⟩ := n9
            have hbx := l1.x 2 rfl
            have y0 := (cell_of_block hbx 1).trans HTC.out
            have f0 := frozen_of_block hbx 1
            obtain ⟨k1, k2⟩ := l1.box 2 rfl 1 (sl arr ys.length)
            have HK1 := Lib.hid (And.intro k1 (l2.trans k2))
            unfold sl at n9 y0
            clear k1 k2 hbx
            rw [if_pos (by rfl)]
            go_simp
            exact hK undef _ _ (by simp only [Act.put, List.setIfInBounds_toArray, List.set_cons_zero, List.set_cons_succ, Nat.reduceAdd, n10, n9] <;> rfl) ⟨arr, HK1.out.1, HK1.out.2⟩ (HK1.out.1.x 4 rfl) trivial
        case hla =>
          intro us v hR hl
          obtain ⟨n0, n1, n2, n3, n4, n5, n6, n7, n10, n11, -⟩ := need_last hl [0, 1, 2, 3, 4, 5, 6, 7, 10, 11] (by kernel_rfl)
          have n0 : us 0 = _ := n0
          have n1 : us 1 = _ := n1
          have n2 : us 2 = _ := n2
          have n3 : us 3 = _ := n3
          have n4 : us 4 = _ := n4
          have n5 : us 5 = _ := n5
          have n6 : us 6 = _ := n6
          have n7 : us 7 = _ := n7
          have n10 : us 10 = _ := n10
          have z1 := cell_of_block hR 1; have z4 := cell_of_block hR 4; simp at z1 z4
          simp only [n0, n1, n2, n3, n4, n5, n6, n7, n10]
          clear hl n0 n1 n2 n3 n4 n5 n6 n7 n10
          obtain ⟨arr, l9, b9⟩ := n11
          have HM9 := Lib.hid (HMID (HP.out.trans HP2.out) rfl (M' := { M with F := F6, t := up M.t true arr }) (by
            have e := tc_set M t true arr ys
            rw [HWT.out.2] at e
            have l9' := l9
            rw [show T.setIfInBounds 1 (sl arr ys.length) = T.setIfInBounds (true : Bool).toNat (sl arr ys.length) from rfl, e, ← HWT.out.1] at l9'
            exact l9') b9)
          clear l9 b9 hR z1 z4
          go_wp2_with fail
          go_meet
          exact HM9.out
      · have q1 : (E == 0) = false := beq_eq_false_iff_ne.2 hE
        have HM9 := Lib.hid (HMID (t' := t.pipe (t.s.send true S)) (HP.out.trans (by unfold T10.send T10.pipe; rw [HE.out, if_neg hE, up_id])) rfl (M' := { M with F := F6 }) (by
          have l6 := HL6.out
          rw [← HWT.out.1, ← HWT.out.2] at l6
          exact l6) HB6.out)
        clear hE
        go_wp2_with fail
        go_meet
        exact HM9.out
    · have q0 : (K == 0) = false := beq_eq_false_iff_ne.2 h0
      by_cases h1 : K = 1
      · have q1 : (K == 1) = true := beq_iff_eq.2 h1
        have HP := Lib.hid (show t.play true (⟨K, 1, N, x, S⟩ : Act10) = t.go true from by unfold T10.play; rw [if_neg h0, if_pos h1])
        clear h0 h1
        go_wp2_with fail
        refine (HL.out.act (go_yes HL.out.pipe HL.out.env true)).mono ?_
        obtain ⟨r1, r2, r3, r4, r5, r6, r7⟩ := t.s.go_row true
        have r1 : (t.s.go true).row false = t.s.row false ++ t.s.news true := r1
        obtain ⟨n, hn⟩ : ∃ n, (t.s.gone true).2 = n := ⟨_, rfl⟩
        rw [hn] at r2 r7 ⊢
        have hgl := goes_le HEO.out
        rintro e w6 ⟨rfl, F6, h6, hb6⟩
        have hok6 := h6.pipe.netOk
        obtain ⟨L, hL⟩ : ∃ L, ((t.s.go true).row false).length = L := ⟨_, rfl⟩
        have hL1000 : L ≤ 1000 := by rw [← hL]; exact Nat.le_trans (hok6.room _ _) hok6.m1000
        have hnL : n ≤ L := by
          have : ((t.s.go true).row false).length = (t.s.row false).length + n := by
            rw [r1, List.length_append, r2]
          omega
        have HROW := Lib.hid (show ∀ j (hj : j < n), (t.s.go true).has false ((L - n + j : Nat) : Int) = true ∧ (t.s.news true)[j]? = some ((t.s.go true).look false ((L - n + j : Nat) : Int)) from fun j hj => by
          have e1 : ((t.s.go true).row false).length = (t.s.row false).length + n := by rw [r1, List.length_append, r2]
          have hlt : L - n + j < ((t.s.go true).row false).length := by omega
          refine ⟨by rw [PS.has_row]; simp; omega, ?_⟩
          rw [PS.look_row _ _ _ hlt, ← List.getElem?_eq_getElem hlt]
          rw [r1, List.getElem?_append_right (by omega)]
          congr 1; omega)
        have HHAS := Lib.hid (show ∀ k : Nat, (t.s.go true).has false (k : Int) = decide (k < L) from fun k => by rw [PS.has_row, hL]; simp)
        have HNL := Lib.hid r2
        have hwl := HZ.out.w false
        have HL6 := Lib.hid (show ∃ F', St10 B { M with F := F' } (t.pipe (t.s.go true)) (boxes5 w.heap.size (⟨K, 1, N, x, S⟩ : Act10) W T zero2 zero2 ++ X) w6 from ⟨F6, h6⟩)
        have HB6 := Lib.hid (HB.out.trans hb6)
        have hx6 := h6.x 4 rfl
        have x1 := cell_of_block hx6 1
        simp [Act10.cells] at x1
        clear h6 hb6 hx6 r1 r2 r3 r4 r5 r6 hok6 hL hn hgl
        go_wp2_with fail
        clear x1
        go_loopw [13, 14] (fun s i wr => ∃ k : Nat, k ≤ 1001 ∧ i = .int .i64 (k : Int) ∧ s = .int .i64 ((min k L : Nat) : Int) ∧ (∃ F', St10 B { M with F := F' } (t.pipe (t.s.go true)) (boxes5 w.heap.size (⟨K, 1, N, x, S⟩ : Act10) W T zero2 zero2 ++ X) wr) ∧ Below B w wr) (fun _ i _ => 1001 - (intOf i).toNat)
        case atStart => exact ⟨0, by omega, rfl, by simp, HL6.out, HB6.out⟩
        case round =>
          obtain ⟨k, hk, rfl, rfl, ⟨F', hs⟩, hb⟩ := hrel
          have HS := Lib.hid hs
          have HBS := Lib.hid hb
          clear hs hb
          by_cases hlt : k < 1001
          · have dk : decide ((k : Int) < 1001) = true := by simp; omega
            go_wp2_with fail
            refine (HS.out.act (look_yes HS.out.pipe HS.out.le false (k : Int))).mono ?_
            have hh := HHAS.out k
            rw [show (t.pipe (t.s.go true)).s.has false (k : Int) = decide (k < L) from hh]
            generalize (t.pipe (t.s.go true)).s.look false (k : Int) = lk
            rintro e w7 ⟨rfl, F7, h7, hb7⟩
            have HS7 := Lib.hid h7
            have HB7 := Lib.hid (HBS.out.trans hb7)
            clear h7 hb7 hh
            by_cases hkl : k < L
            · have d2 : decide (k < L) = true := decide_eq_true hkl
              rw [d2]
              have hm1 : min k L = k := by omega
              rw [hm1]
              go_wp2_with fail
              go_roundw
              case rel => exact ⟨k + 1, by omega, by go_num, by congr 1; omega, ⟨F7, HS7.out⟩, HB7.out⟩
              case measure => simp [intOf]; omega
            · have d2 : decide (k < L) = false := decide_eq_false hkl
              rw [d2]
              have hm1 : min k L = L := by omega
              rw [hm1]
              go_wp2_with fail
              go_roundw
              case rel => exact ⟨k + 1, by omega, by go_num, by congr 1; omega, ⟨F7, HS7.out⟩, HB7.out⟩
              case measure => simp [intOf]; omega
          · have dk : decide ((k : Int) < 1001) = false := by simp; omega
            have hm1 : min k L = L := by omega
            rw [hm1]
            have hnl : (L : Int) - (n : Int) = ((L - n : Nat) : Int) := by omega
            have HST := Lib.hid (show L2false B M t (⟨K, 1, N, x, S⟩ : Act10) X T w.heap.size 0 wr from by
              refine ⟨F', M.w, ?_⟩
              rw [List.take_zero, List.append_nil, up_id]
              have hs := HS.out
              rw [← HWT.out.1] at hs
              exact hs)
            have hn0 : (0 : Int) ≤ (n : Int) := by omega
            clear hlt hm1 hk
            go_wp2_with fail
            go_loopw [17] (fun i wr => ∃ j : Nat, j ≤ n ∧ i = .int .i64 ((L - n + j : Nat) : Int) ∧ L2false B M t (⟨K, 1, N, x, S⟩ : Act10) X T w.heap.size j wr ∧ Below B w wr) (fun i _ => L - (intOf i).toNat)
            case atStart => exact ⟨0, Nat.zero_le _, by rw [Nat.add_zero], HST.out, HBS.out⟩
            case round =>
              obtain ⟨j, hj, rfl, hs2, hb2⟩ := hrel
              have HBS2 := Lib.hid hb2
              by_cases hjl : j < n
              · have hlt2 : L - n + j < L := by omega
                have dk2 : decide (((L - n + j : Nat) : Int) < (L : Int)) = true := by simp; omega
                obtain ⟨i, hi⟩ : ∃ i : Nat, L - n + j = i := ⟨_, rfl⟩
                rw [hi] at dk2 hlt2
                obtain ⟨c1, c2⟩ := HROW.out j hjl
                rw [hi] at c1 c2
                obtain ⟨b, hb⟩ : ∃ b, (t.s.go true).look false (i : Int) = b := ⟨_, rfl⟩
                rw [hb] at c2
                obtain ⟨F2, w2, hs2⟩ := hs2
                obtain ⟨xs, hxs⟩ : ∃ xs, t.w false ++ (t.s.news true).take j = xs := ⟨_, rfl⟩
                rw [hxs] at hs2
                have HYS := Lib.hid (show t.w false ++ (t.s.news true).take (j + 1) = xs ++ [b] from by rw [List.take_add_one, c2, ← hxs]; simp)
                have hxl : xs.length ≤ 200000 := by rw [← hxs, List.length_append, List.length_take]; omega
                obtain ⟨t2, ht2⟩ : ∃ t2 : T10, { t.pipe (t.s.go true) with w := up t.w false xs } = t2 := ⟨_, rfl⟩
                rw [ht2] at hs2
                have HT2 := Lib.hid (show t2.s.has false (i : Int) = true ∧ t2.s.look false (i : Int) = b ∧ t2.w false = xs from by
                  have hu : up t.w false xs false = xs := up_same _ _ _
                  rw [← ht2]; exact ⟨c1, hb, hu⟩)
                have HTE := Lib.hid ht2
                have HS2 := Lib.hid hs2
                have HHI := Lib.hid hi
                rw [hi]
                clear hs2 hb2 hb c1 c2 hxs hi ht2
                go_wp2_with fail
                refine (HS2.out.act (look_yes HS2.out.pipe HS2.out.le false (i : Int))).mono ?_
                rw [HT2.out.1, HT2.out.2.1]
                rintro e w7 ⟨rfl, F7, h7, hb7⟩
                have h7 : St10 B { M with F := F7, w := w2 } t2 (boxes5 w.heap.size (⟨K, 1, N, x, S⟩ : Act10) (M10.wc { M with F := F2, w := w2 } t2) T zero2 zero2 ++ X) w7 := h7
                obtain ⟨W3, hW3⟩ : ∃ W3, M10.wc { M with F := F2, w := w2 } t2 = W3 := ⟨_, rfl⟩
                have HW3 := Lib.hid hW3
                rw [hW3] at h7
                have HB7 := Lib.hid (HBS2.out.trans hb7)
                have HWC := Lib.hid (show W3[0]? = some (sl (w2 false) xs.length) from by
                  rw [← hW3, ← HT2.out.2.2]; exact wc_at { M with F := F2, w := w2 } t2 false)
                have y0 := (cell_of_block (h7.x 3 rfl) 0).trans HWC.out
                unfold sl at y0
                obtain ⟨ys, hys⟩ : ∃ ys, xs ++ [b] = ys := ⟨_, rfl⟩
                have HYE := Lib.hid hys
                have HYL := Lib.hid (show xs.length + 1 = ys.length from by rw [← hys]; simp)
                have HYM := Lib.hid (show xs.map Value.string ++ [.string b] = ys.map .string from by rw [← hys]; simp)
                have hva : Below w7.heap.size w7 (w7.alloc (.cells #[.string b] 9)) := (Below.refl _ _).alloc (Nat.le_refl _) _
                have HLA := Lib.hid (h7.after hva)
                have HBA := Lib.hid (HB7.out.trans (hva.mono h7.le))
                have HVA := Lib.hid (show Vec (w7.alloc (.cells #[.string b] 9)) (w2 false).F 1 (w2 false).A xs.length (w2 false).c (xs.map .string) from by
                  have := (h7.after hva).wv false
                  rw [HT2.out.2.2] at this
                  exact this)
                clear h7 hb7 hva hys hW3
                go_wp2_with (at_builtin; (refine wpList_append_vec _ (by rfl) _ _ _ _ (by rfl) 9 i0 _ 1 16 Tryd.underlying28 hi0 hz0 hz1 hz2 rfl (w2 false).F (w2 false).A xs.length (w2 false).c (xs.map .string) (.slice (some ⟨w7.heap.size, 0, none⟩) 1 1) 1 [.string b] (by rfl) (by rfl) (by exact HVA.out) (by exact src_new _ Tryd.underlying28 [.string b] 1 1 1 rfl (by simp [Value.oneCell']) _ (heap_alloc_new w7 _)) (by unfold maxLen; omega) (by omega) ?_; intro v6 w8 happ; rw [HYL.out, HYM.out] at happ; obtain ⟨F8, A8, c8, rfl, hv8, ht8⟩ := happ.all; obtain ⟨l8, b8⟩ := HLA.out.setW (me := false) (a := ⟨A8, c8, F8⟩) (l := ys) hv8 ht8; have hbx8 := l8.x 3 rfl; have y8 := (cell_of_block hbx8 0).trans HWC.out; have f8 := frozen_of_block hbx8 0; unfold sl at y8; obtain ⟨k1, k2⟩ := l8.box 3 rfl 0 (sl ⟨A8, c8, F8⟩ ys.length); have HL8 := Lib.hid k1; have HB8 := Lib.hid ((HBA.out.trans b8).trans k2); clear happ l8 b8 hv8 ht8 hbx8 y0 k1 k2))
                have HST2 := Lib.hid (show L2false B M t (⟨K, 1, N, x, S⟩ : Act10) X T w.heap.size (j + 1) (w8.setCell ⟨w.heap.size + 1, 0, none⟩ (.slice A8 ys.length c8)) from by
                  refine ⟨F7, up w2 false ⟨A8, c8, F8⟩, ?_⟩
                  rw [HYS.out, HYE.out]
                  have l9 := HL8.out
                  have e := wc_set { M with F := F2, w := w2 } t2 false ⟨A8, c8, F8⟩ ys
                  rw [HW3.out, show (false : Bool).toNat = 0 from rfl] at e
                  rw [e, ← HTE.out] at l9
                  have e3 : ({ t.pipe (t.s.go true) with w := up (up t.w false xs) false ys } : T10) = { t.pipe (t.s.go true) with w := up t.w false ys } := by rw [up_up]
                  rw [← e3]
                  exact l9)
                go_wp2_with fail
                go_roundw
                case rel => exact ⟨j + 1, hjl, by rw [← Nat.add_assoc, HHI.out]; go_num, HST2.out, HB8.out⟩
                case measure => simp [intOf]; omega
              · have hj2 : j = n := by omega
                have hiL : L - n + j = L := by omega
                have HM9 := Lib.hid (by
                  obtain ⟨F2, w2, hs2⟩ := hs2
                  have e : (t.s.news true).take j = t.s.news true := List.take_of_length_le (by rw [HNL.out]; omega)
                  rw [e, ← HWT.out.2] at hs2
                  exact HMID (t' := t.go true) (M' := { M with F := F2, w := w2 }) HP.out rfl hs2 HBS2.out)
                rw [hiL]
                clear hs2 hb2 hiL hj2 hjl
                go_wp2_with fail
                go_meet
                exact HM9.out
      · have q1 : (K == 1) = false := beq_eq_false_iff_ne.2 h1
        by_cases h2 : K = 2
        · have q2 : (K == 2) = true := beq_iff_eq.2 h2
          have HP := Lib.hid (show t.play true (⟨K, 1, N, x, S⟩ : Act10) = t.pipe (t.s.tick true) from by unfold T10.play; rw [if_neg h0, if_neg h1, if_pos h2])
          clear h0 h1 h2
          go_wp2_with fail
          refine (HL.out.act (tick_yes HL.out.pipe HL.out.le true)).mono ?_
          rintro e w6 ⟨rfl, F6, h6, hb6⟩
          have HM9 := Lib.hid (HMID HP.out rfl (M' := { M with F := F6 }) (by
            have l6 := h6
            rw [← HWT.out.1, ← HWT.out.2] at l6
            exact l6) (HB.out.trans hb6))
          clear h6 hb6
          go_wp2_with fail
          go_meet
          exact HM9.out
        · have q2 : (K == 2) = false := beq_eq_false_iff_ne.2 h2
          by_cases h3 : K = 3
          · have q3 : (K == 3) = true := beq_iff_eq.2 h3
            have HP := Lib.hid (show t.play true (⟨K, 1, N, x, S⟩ : Act10) = t.pipe (t.s.come true N) from by unfold T10.play; rw [if_neg h0, if_neg h1, if_neg h2, if_pos h3])
            have HNB := Lib.hid (show ¬ t.bad true N from fun h => HBAD.out ⟨h3, h⟩)
            clear h0 h1 h2 h3
            go_wp2_with fail
            refine (HL.out.act (look_yes HL.out.pipe HL.out.le true N)).mono ?_
            obtain ⟨lk, hlk⟩ : ∃ lk, t.s.look true N = lk := ⟨_, rfl⟩
            obtain ⟨ok, hok⟩ : ∃ ok, t.s.has true N = ok := ⟨_, rfl⟩
            rw [hlk, hok]
            have HLO := Lib.hid (And.intro hlk hok)
            rintro e w6 ⟨rfl, F6, h6, hb6⟩
            have h6 : St10 B { M with F := F6 } t (boxes5 w.heap.size (⟨K, 1, N, x, S⟩ : Act10) W T zero2 zero2 ++ X) w6 := h6
            have HL6 := Lib.hid h6
            have HB6 := Lib.hid (HB.out.trans hb6)
            obtain ⟨f, hf⟩ : ∃ f, Frame.get lk.data.toList = f := ⟨_, rfl⟩
            obtain ⟨E, hE⟩ : ∃ E, (Frame.why lk.data.toList).2 = E := ⟨_, rfl⟩
            have HFE := Lib.hid (And.intro hf hE)
            have HSZL := Lib.hid (show lk.size ≤ maxLen from by
              have : (t.s.look true N).size ≤ 100 := HZ.out.short.look _ _ _
              rw [hlk] at this
              unfold maxLen; omega)
            clear h6 hb6 hlk hok hf hE x0 x1 x2 x3 x4
            go_wp2_with fail
            refine (Frame.Get_is lk f E _ HSZL.out HFE.out.1.symm HFE.out.2.symm HL6.out.env.tab HL6.out.env.err).mono ?_
            rintro e w7 ⟨rfl, hb7⟩
            have h7 := HL6.out.after hb7
            have hba : Below w7.heap.size w7 (w7.alloc (.cells #[.int .i64 f.kind, .int .i64 f.epoch, .int .u64 f.seq, .int .u64 f.ack, .string f.body] 57)) := (Below.refl _ _).alloc (Nat.le_refl _) _
            have HL8 := Lib.hid (h7.after hba)
            have HB8 := Lib.hid ((HB6.out.trans (hb7.mono HL6.out.le)).trans (hba.mono h7.le))
            rw [show f.val = .agg #[.int .i64 f.kind, .int .i64 f.epoch, .int .u64 f.seq, .int .u64 f.ack, .string f.body] from rfl]
            have hx8 := HL8.out.x 4 rfl
            have x1 := cell_of_block hx8 1
            have x2 := cell_of_block hx8 2
            simp [Act10.cells] at x1 x2
            have y3 := (cell_of_block (HL8.out.x 3 rfl) 1).trans (show W[1]? = some (sl (M.w true) (t.w true).length) from by rw [← HWT.out.1]; rfl)
            unfold sl at y3
            have hwl := HZ.out.w true
            clear h7 hb7 hba hx8
            cases ok
            · go_wp2_with fail
              refine (HL8.out.act (come_yes HL8.out.pipe HL8.out.env HZ.out.short true (Nat.le_trans (HZ.out.g true) (by omega)) N)).mono ?_
              rintro e w9 ⟨rfl, F9, h9, hb9⟩
              have HM9 := Lib.hid (HMID HP.out rfl (M' := { M with F := F9 }) (by
                have l6 := h9
                rw [← HWT.out.1, ← HWT.out.2] at l6
                exact l6) (HB8.out.trans hb9))
              clear h9 hb9
              go_wp2_with fail
              go_meet
              exact HM9.out
            · by_cases hE : E = 0
              · have he : (E == 0) = true := beq_iff_eq.2 hE
                have HIN := Lib.hid (show lk ∈ t.w true from by
                  by_cases c : lk ∈ t.w true
                  · exact c
                  · refine absurd (show t.bad true N from ⟨?_, by rw [HLO.out.1]; exact c⟩) HNB.out
                    unfold PS.frameB
                    rw [HLO.out.1, HLO.out.2, HFE.out.2, hE]; rfl)
                clear hE
                go_wp2_with fail
                refine (in_any (HL8.out.wv true) (by show (t.w true).length ≤ 1000000; omega) lk).mono ?_
                rintro e w9 ⟨⟨r, rfl, hr⟩, rfl⟩
                obtain rfl : r = true := hr.2 HIN.out
                clear hr
                go_wp2_with fail
                refine (HL8.out.act (come_yes HL8.out.pipe HL8.out.env HZ.out.short true (Nat.le_trans (HZ.out.g true) (by omega)) N)).mono ?_
                rintro e w10 ⟨rfl, F9, h9, hb9⟩
                have HM9 := Lib.hid (HMID HP.out rfl (M' := { M with F := F9 }) (by
                  have l6 := h9
                  rw [← HWT.out.1, ← HWT.out.2] at l6
                  exact l6) (HB8.out.trans hb9))
                clear h9 hb9
                go_wp2_with fail
                go_meet
                exact HM9.out
              · have he : (E == 0) = false := beq_eq_false_iff_ne.2 hE
                clear hE
                go_wp2_with fail
                refine (HL8.out.act (come_yes HL8.out.pipe HL8.out.env HZ.out.short true (Nat.le_trans (HZ.out.g true) (by omega)) N)).mono ?_
                rintro e w9 ⟨rfl, F9, h9, hb9⟩
                have HM9 := Lib.hid (HMID HP.out rfl (M' := { M with F := F9 }) (by
                  have l6 := h9
                  rw [← HWT.out.1, ← HWT.out.2] at l6
                  exact l6) (HB8.out.trans hb9))
                clear h9 hb9
                go_wp2_with fail
                go_meet
                exact HM9.out
          · have q3 : (K == 3) = false := beq_eq_false_iff_ne.2 h3
            by_cases h4 : K = 4
            · have q4 : (K == 4) = true := beq_iff_eq.2 h4
              have HP := Lib.hid (show t.play true (⟨K, 1, N, x, S⟩ : Act10) = t.pipe (t.s.lose true N) from by unfold T10.play; rw [if_neg h0, if_neg h1, if_neg h2, if_neg h3, if_pos h4])
              clear h0 h1 h2 h3 h4
              go_wp2_with fail
              refine (HL.out.act (lose_yes HL.out.pipe HL.out.le true N)).mono ?_
              rintro e w6 ⟨rfl, F6, h6, hb6⟩
              have HM9 := Lib.hid (HMID HP.out rfl (M' := { M with F := F6 }) (by
                have l6 := h6
                rw [← HWT.out.1, ← HWT.out.2] at l6
                exact l6) (HB.out.trans hb6))
              clear h6 hb6
              go_wp2_with fail
              go_meet
              exact HM9.out
            · have q4 : (K == 4) = false := beq_eq_false_iff_ne.2 h4
              by_cases h5 : K = 5
              · have q5 : (K == 5) = true := beq_iff_eq.2 h5
                have HP := Lib.hid (show t.play true (⟨K, 1, N, x, S⟩ : Act10) = t.pipe (t.s.double true N) from by unfold T10.play; rw [if_neg h0, if_neg h1, if_neg h2, if_neg h3, if_neg h4, if_pos h5])
                clear h0 h1 h2 h3 h4 h5
                go_wp2_with fail
                refine (HL.out.act (double_yes HL.out.pipe HL.out.le true N)).mono ?_
                rintro e w6 ⟨rfl, F6, h6, hb6⟩
                have HM9 := Lib.hid (HMID HP.out rfl (M' := { M with F := F6 }) (by
                  have l6 := h6
                  rw [← HWT.out.1, ← HWT.out.2] at l6
                  exact l6) (HB.out.trans hb6))
                clear h6 hb6
                go_wp2_with fail
                go_meet
                exact HM9.out
              · have q5 : (K == 5) = false := beq_eq_false_iff_ne.2 h5
                have HP := Lib.hid (show t.play true (⟨K, 1, N, x, S⟩ : Act10) = t.pipe (t.s.flip true N x) from by unfold T10.play; rw [if_neg h0, if_neg h1, if_neg h2, if_neg h3, if_neg h4, if_neg h5])
                clear h0 h1 h2 h3 h4 h5
                go_wp2_with fail
                refine (HL.out.act (flip_yes HL.out.pipe HL.out.le true N x (by have : (t.s.look true N).size ≤ 100 := HZ.out.short.look _ _ _; omega))).mono ?_
                rintro e w6 ⟨rfl, F6, h6, hb6⟩
                have HM9 := Lib.hid (HMID HP.out rfl (M' := { M with F := F6 }) (by
                  have l6 := h6
                  rw [← HWT.out.1, ← HWT.out.2] at l6
                  exact l6) (HB.out.trans hb6))
                clear h6 hb6
                go_wp2_with fail
                go_meet
                exact HM9.out
  case rest =>
    obtain ⟨MR, hMP, hl, hb⟩ := hcut
    obtain ⟨tR, htR⟩ : ∃ tR, t.play true (⟨K, 1, N, x, S⟩ : Act10) = tR := ⟨_, rfl⟩
    rw [htR] at hl
    clear HWT x0 x1 x2 x3 x4 HBAD HZ HL HB HW5
    obtain ⟨W, hW⟩ : ∃ W, MR.wc tR = W := ⟨_, rfl⟩
    obtain ⟨T, hT⟩ : ∃ T, MR.tc tR = T := ⟨_, rfl⟩
    have HWT := Lib.hid (And.intro hW hT)
    rw [hW, hT] at hl
    have HLR := Lib.hid hl
    have HBR := Lib.hid hb
    have HMP := Lib.hid hMP
    have HTR := Lib.hid htR
    clear hl hb hMP hW hT htR
    go_upto_region 35 with fail
    refine' wp_flow [only 0 (.agg W), only 1 (.agg T), (fun _ v => St10 B MR tR (boxes5 w.heap.size (⟨K, 1, N, x, S⟩ : Act10) W T W zero2 ++ X) v ∧ Below B w v), (fun _ v => St10 B MR tR (boxes5 w.heap.size (⟨K, 1, N, x, S⟩ : Act10) W T W T ++ X) v ∧ Below B w v), only 4 _, (fun _ v => St10 B MR tR (boxes5 w.heap.size (⟨K, 1, N, x, S⟩ : Act10) W T zero2 zero2 ++ X) v ∧ Below B w v)] (fun v => v.heap[w.heap.size + 1]? = some (.cells W 29 (0, 0)) ∧ v.heap[w.heap.size + 1 + 1]? = some (.cells T 29 (0, 0))) [[], [], [0, 5], [1, 2], []] [[], [], [5], [2], []] [[], [], [], [], []] [[5], [2, 5], [], [], [2, 3, 5]] [2, 3, 5] [0, 0, 1, 7, 0] _ (fun us => ?hfr) (by kernel_rfl) (by kernel_rfl) (by kernel_rfl) ⟨only_still _, only_still _, trivial, trivial, only_still _, trivial, trivial⟩ (⟨HLR.out.x 3 rfl, HLR.out.x 2 rfl⟩) (by simp) (⟨HLR.out.after (below_drewN (Below.refl _ _) 1), below_drewN HBR.out 1⟩) ?hst ?hla
    case hfr => (simp only [List.cons_append, List.nil_append, putAll, Act.put, List.setIfInBounds_toArray, List.set_cons_zero, List.set_cons_succ, Nat.reduceAdd]; rfl)
    case hst =>
      refine ⟨?_, ?_, ?_, ?_, ?_, trivial⟩
      · intro us v hR hn ho K hK
        clear ho
        skip
        have hcs : (Tryd.prog.info? 29).map (·.size) = some W.size := by rw [← HWT.out.1]; kernel_rfl
        rw [if_pos (by rfl)]
        refine wp_load_row 29 _ (by rfl) (w.heap.size + 1) (by rfl) 29 W (0, 0) _ hR.1 Tryd.underlying29 rfl hcs ?_
        refine hK _ _ _ (by simp only [Act.put, List.setIfInBounds_toArray, List.set_cons_zero, List.set_cons_succ, Nat.reduceAdd] <;> rfl) ?_ hR ⟨fun h => h, trivial⟩
        exact only_mk (v := v) rfl
      · intro us v hR hn ho K hK
        clear ho
        skip
        have hcs : (Tryd.prog.info? 29).map (·.size) = some T.size := by rw [← HWT.out.2]; kernel_rfl
        rw [if_pos (by rfl)]
        refine wp_load_row 29 _ (by rfl) (w.heap.size + 1 + 1) (by rfl) 29 T (0, 0) _ hR.2 Tryd.underlying29 rfl hcs ?_
        refine hK _ _ _ (by simp only [Act.put, List.setIfInBounds_toArray, List.set_cons_zero, List.set_cons_succ, Nat.reduceAdd] <;> rfl) ?_ hR ⟨fun h => h, fun h => h, trivial⟩
        exact only_mk (v := v) rfl
      · intro us v hR hn ho K hK
        obtain ⟨n0, ns, -⟩ := hn
        have n0 : us 0 = _ := n0
        clear ho
        skip
        obtain ⟨l1, l2⟩ := ns
        rw [if_pos (by rfl)]
        refine wp_store_all 29 (.tmp 8) (.tmp 170) (by rfl) (w.heap.size + 1 + 1 + 1) zero2 W 29 (by rfl) n0 (l1.x 1 rfl) (by rw [← HWT.out.1]; rfl) (by rw [← HWT.out.1]; kernel_rfl) (by rw [← HWT.out.1]; exact (two_one MR tR).1) ?_
        intro v' hq hk
        obtain ⟨k1, k2⟩ := l1.boxAll 1 rfl hq hk
        exact hK undef _ _ (by simp only [Act.put, List.setIfInBounds_toArray, List.set_cons_zero, List.set_cons_succ, Nat.reduceAdd, n0, n0] <;> rfl) ⟨k1, l2.trans k2⟩ ⟨k1.x 3 rfl, k1.x 2 rfl⟩ trivial
      · intro us v hR hn ho K hK
        obtain ⟨n1, n2, -⟩ := hn
        have n1 : us 1 = _ := n1
        clear ho
        skip
        obtain ⟨l1, l2⟩ := n2
        rw [if_pos (by rfl)]
        refine wp_store_all 29 (.tmp 9) (.tmp 171) (by rfl) (w.heap.size + 1 + 1 + 1 + 1) zero2 T 29 (by rfl) n1 (l1.x 0 rfl) (by rw [← HWT.out.2]; rfl) (by rw [← HWT.out.2]; kernel_rfl) (by rw [← HWT.out.2]; exact (two_one MR tR).2) ?_
        intro v' hq hk
        obtain ⟨k1, k2⟩ := l1.boxAll 0 rfl hq hk
        exact hK undef _ _ (by simp only [Act.put, List.setIfInBounds_toArray, List.set_cons_zero, List.set_cons_succ, Nat.reduceAdd, n1, n1] <;> rfl) ⟨k1, l2.trans k2⟩ ⟨k1.x 3 rfl, k1.x 2 rfl⟩ trivial
      · intro us v hR hn ho K hK
        clear ho
        skip
        rw [if_pos (by rfl)]
        go_simp
        refine hK _ _ _ (by simp only [Act.put, List.setIfInBounds_toArray, List.set_cons_zero, List.set_cons_succ, Nat.reduceAdd] <;> rfl) ?_ hR ⟨fun h => h, fun h => h, fun h => h, trivial⟩
        refine only_mk (v := v) ?_
        with_reducible rfl
    case hla =>
      intro us v hR hl
      obtain ⟨n0, n1, n3, n4, -⟩ := need_last hl [0, 1, 3, 4] (by kernel_rfl)
      have n0 : us 0 = _ := n0
      have n1 : us 1 = _ := n1
      have n4 : us 4 = _ := n4
      skip
      simp only [n0, n1, n4]
      clear hl n0 n1 n4
      obtain ⟨l3, b3⟩ := n3
      have HL3 := Lib.hid l3
      have HB3 := Lib.hid b3
      clear l3 b3 hR
      go_wp2_with fail
      refine ret_two Tryd.results11 (w.heap.size + 1 + 1 + 1) (w.heap.size + 1 + 1 + 1 + 1) 29 29 W T _ (.bool true) rfl (HL3.out.x 1 rfl) rfl (HL3.out.x 0 rfl) rfl Tryd.underlying29 rfl (by rw [← HWT.out.1]; kernel_rfl) (by rw [← HWT.out.2]; kernel_rfl) rfl ?_
      have hfin : PlaySaid B M.p X tR true w (.returned (.tuple #[.agg W, .agg T, .bool true])) v := by
        refine ⟨MR, HMP.out, by first | (rw [← HWT.out.1, ← HWT.out.2]; done) | (rw [← HWT.out.1, ← HWT.out.2]; rfl), HL3.out.drop (Y := boxes5 w.heap.size (⟨K, 1, N, x, S⟩ : Act10) W T W T), HB3.out⟩
      rw [HTR.out]; exact hfin
set_option maxRecDepth 100000 in
set_option maxHeartbeats 16000000 in
theorem bad_true (h : St10 B M t X w) (hz : Sz10 t) (N x : Int) (S : ByteArray) (hbad : t.bad true N) :
    Calls Tryd.prog 11 #[.pointer (some ⟨M.p, 0, none⟩), .agg (⟨3, 1, N, x, S⟩ : Act10).cells.toArray, .agg (M.wc t), .agg (M.tc t)] w (PlaySaid B M.p X t false w) := by
  obtain ⟨i0, hi0, hz0, hz1, hz2⟩ := info_parts Link.str_info
  obtain ⟨W, hW⟩ : ∃ W, M.wc t = W := ⟨_, rfl⟩
  obtain ⟨T, hT⟩ : ∃ T, M.tc t = T := ⟨_, rfl⟩
  obtain ⟨w5, hw5⟩ : ∃ w5, ((((w.alloc (.cells (⟨3, 1, N, x, S⟩ : Act10).cells.toArray 33)).alloc (.cells W 29)).alloc (.cells T 29)).alloc (.cells zero2 29)).alloc (.cells zero2 29) = w5 := ⟨_, rfl⟩
  obtain ⟨hl, hb⟩ := h.boxes (⟨3, 1, N, x, S⟩ : Act10) W T
  rw [hw5] at hl hb
  unfold zero2 at hw5
  simp only [Act10.cells] at hw5
  have HW5 := Lib.hid hw5
  have HL := Lib.hid hl
  have HB := Lib.hid (hb.mono h.le)
  have HWT := Lib.hid (And.intro hW hT)
  have HZ := Lib.hid hz
  have HBAD := Lib.hid hbad
  have HOK := Lib.hid h.pipe.netOk
  have HEO := Lib.hid (h.pipe.endOk true)
  rw [hW, hT]
  have hx := hl.x 4 rfl
  have x0 := cell_of_block hx 0
  have x1 := cell_of_block hx 1
  have x2 := cell_of_block hx 2
  have x3 := cell_of_block hx 3
  have x4 := cell_of_block hx 4
  simp [Act10.cells] at x0 x1 x2 x3 x4
  simp only [Act10.cells]
  clear hl hb hw5 hW hT h hz hx hbad
  go_enter Tryd.func11, Tryd.ntmps11
  go_upto_region 1 with fail
  rw [HW5.out]
  go_wp2_with fail
  refine (HL.out.act (look_yes HL.out.pipe HL.out.le true N)).mono ?_
  obtain ⟨lk, hlk⟩ : ∃ lk, t.s.look true N = lk := ⟨_, rfl⟩
  obtain ⟨ok, hok⟩ : ∃ ok, t.s.has true N = ok := ⟨_, rfl⟩
  rw [hlk, hok]
  have HLO := Lib.hid (And.intro hlk hok)
  rintro e w6 ⟨rfl, F6, h6, hb6⟩
  have h6 : St10 B { M with F := F6 } t (boxes5 w.heap.size (⟨3, 1, N, x, S⟩ : Act10) W T zero2 zero2 ++ X) w6 := h6
  have HL6 := Lib.hid h6
  have HB6 := Lib.hid (HB.out.trans hb6)
  obtain ⟨f, hf⟩ : ∃ f, Frame.get lk.data.toList = f := ⟨_, rfl⟩
  obtain ⟨E, hE⟩ : ∃ E, (Frame.why lk.data.toList).2 = E := ⟨_, rfl⟩
  have HFE := Lib.hid (And.intro hf hE)
  have HSZL := Lib.hid (show lk.size ≤ maxLen from by
    have : (t.s.look true N).size ≤ 100 := HZ.out.short.look _ _ _
    rw [hlk] at this
    unfold maxLen; omega)
  clear h6 hb6 hlk hok hf hE x0 x1 x2 x3 x4
  go_wp2_with fail
  refine (Frame.Get_is lk f E _ HSZL.out HFE.out.1.symm HFE.out.2.symm HL6.out.env.tab HL6.out.env.err).mono ?_
  rintro e w7 ⟨rfl, hb7⟩
  have h7 := HL6.out.after hb7
  have hba : Below w7.heap.size w7 (w7.alloc (.cells #[.int .i64 f.kind, .int .i64 f.epoch, .int .u64 f.seq, .int .u64 f.ack, .string f.body] 57)) := (Below.refl _ _).alloc (Nat.le_refl _) _
  have HL8 := Lib.hid (h7.after hba)
  have HB8 := Lib.hid ((HB6.out.trans (hb7.mono HL6.out.le)).trans (hba.mono h7.le))
  rw [show f.val = .agg #[.int .i64 f.kind, .int .i64 f.epoch, .int .u64 f.seq, .int .u64 f.ack, .string f.body] from rfl]
  have hx8 := HL8.out.x 4 rfl
  have x1 := cell_of_block hx8 1
  have x2 := cell_of_block hx8 2
  simp [Act10.cells] at x1 x2
  have y3 := (cell_of_block (HL8.out.x 3 rfl) 1).trans (show W[1]? = some (sl (M.w true) (t.w true).length) from by rw [← HWT.out.1]; rfl)
  unfold sl at y3
  have hwl := HZ.out.w true
  clear h7 hb7 hba hx8
  have hok2 : ok = true := by
    have := HBAD.out.1
    unfold PS.frameB at this
    rw [HLO.out.2] at this
    cases ok <;> simp at this ⊢
  have hE : E = 0 := by
    have := HBAD.out.1
    unfold PS.frameB at this
    rw [HLO.out.1, HFE.out.2] at this
    simp at this
    exact this.2
  subst hok2
  subst hE
  go_wp2_with fail
  refine (in_any (HL8.out.wv true) (by show (t.w true).length ≤ 1000000; omega) lk).mono ?_
  rintro e w9 ⟨⟨r, rfl, hr⟩, rfl⟩
  obtain rfl : r = false := by
    cases r
    · rfl
    · exact absurd (hr.1 rfl) (by rw [← HLO.out.1]; exact HBAD.out.2)
  clear hr
  go_wp2_with fail
  clear x1 x2 y3
  obtain ⟨w8, hw8⟩ : ∃ w8, w7.alloc (.cells #[.int .i64 f.kind, .int .i64 f.epoch, .int .u64 f.seq, .int .u64 f.ack, .string f.body] 57) = w8 := ⟨_, rfl⟩
  have HLR := HL8
  have HBR := HB8
  refine' wp_flow [only 0 (.agg W), only 1 (.agg T), (fun _ v => St10 B { M with F := F6 } t (boxes5 w.heap.size (⟨3, 1, N, x, S⟩ : Act10) W T W zero2 ++ X) v ∧ Below B w v), (fun _ v => St10 B { M with F := F6 } t (boxes5 w.heap.size (⟨3, 1, N, x, S⟩ : Act10) W T W T ++ X) v ∧ Below B w v), only 4 _, (fun _ v => St10 B { M with F := F6 } t (boxes5 w.heap.size (⟨3, 1, N, x, S⟩ : Act10) W T zero2 zero2 ++ X) v ∧ Below B w v)] (fun v => v.heap[w.heap.size + 1]? = some (.cells W 29 (0, 0)) ∧ v.heap[w.heap.size + 1 + 1]? = some (.cells T 29 (0, 0))) [[], [], [0, 5], [1, 2], []] [[], [], [5], [2], []] [[], [], [], [], []] [[5], [2, 5], [], [], [2, 3, 5]] [2, 3, 5] [0, 0, 1, 7, 0] _ (fun us => ?hfr) (by kernel_rfl) (by kernel_rfl) (by kernel_rfl) ⟨only_still _, only_still _, trivial, trivial, only_still _, trivial, trivial⟩ (⟨HLR.out.x 3 rfl, HLR.out.x 2 rfl⟩) (by simp) (⟨HLR.out.after (below_drewN (Below.refl _ _) 1), below_drewN HBR.out 1⟩) ?hst ?hla
  case hfr => (simp only [List.cons_append, List.nil_append, putAll, Act.put, List.setIfInBounds_toArray, List.set_cons_zero, List.set_cons_succ, Nat.reduceAdd]; rfl)
  case hst =>
    refine ⟨?_, ?_, ?_, ?_, ?_, trivial⟩
    · intro us v hR hn ho K hK
      clear ho
      skip
      have hcs : (Tryd.prog.info? 29).map (·.size) = some W.size := by rw [← HWT.out.1]; kernel_rfl
      rw [if_pos (by rfl)]
      refine wp_load_row 29 _ (by rfl) (w.heap.size + 1) (by rfl) 29 W (0, 0) _ hR.1 Tryd.underlying29 rfl hcs ?_
      refine hK _ _ _ (by simp only [Act.put, List.setIfInBounds_toArray, List.set_cons_zero, List.set_cons_succ, Nat.reduceAdd] <;> rfl) ?_ hR ⟨fun h => h, trivial⟩
      exact only_mk (v := v) rfl
    · intro us v hR hn ho K hK
      clear ho
      skip
      have hcs : (Tryd.prog.info? 29).map (·.size) = some T.size := by rw [← HWT.out.2]; kernel_rfl
      rw [if_pos (by rfl)]
      refine wp_load_row 29 _ (by rfl) (w.heap.size + 1 + 1) (by rfl) 29 T (0, 0) _ hR.2 Tryd.underlying29 rfl hcs ?_
      refine hK _ _ _ (by simp only [Act.put, List.setIfInBounds_toArray, List.set_cons_zero, List.set_cons_succ, Nat.reduceAdd] <;> rfl) ?_ hR ⟨fun h => h, fun h => h, trivial⟩
      exact only_mk (v := v) rfl
    · intro us v hR hn ho K hK
      obtain ⟨n0, ns, -⟩ := hn
      have n0 : us 0 = _ := n0
      clear ho
      skip
      obtain ⟨l1, l2⟩ := ns
      rw [if_pos (by rfl)]
      refine wp_store_all 29 (.tmp 8) (.tmp 146) (by rfl) (w.heap.size + 1 + 1 + 1) zero2 W 29 (by rfl) n0 (l1.x 1 rfl) (by rw [← HWT.out.1]; rfl) (by rw [← HWT.out.1]; kernel_rfl) (by rw [← HWT.out.1]; exact (two_one { M with F := F6 } t).1) ?_
      intro v' hq hk
      obtain ⟨k1, k2⟩ := l1.boxAll 1 rfl hq hk
      exact hK undef _ _ (by simp only [Act.put, List.setIfInBounds_toArray, List.set_cons_zero, List.set_cons_succ, Nat.reduceAdd, n0, n0] <;> rfl) ⟨k1, l2.trans k2⟩ ⟨k1.x 3 rfl, k1.x 2 rfl⟩ trivial
    · intro us v hR hn ho K hK
      obtain ⟨n1, n2, -⟩ := hn
      have n1 : us 1 = _ := n1
      clear ho
      skip
      obtain ⟨l1, l2⟩ := n2
      rw [if_pos (by rfl)]
      refine wp_store_all 29 (.tmp 9) (.tmp 147) (by rfl) (w.heap.size + 1 + 1 + 1 + 1) zero2 T 29 (by rfl) n1 (l1.x 0 rfl) (by rw [← HWT.out.2]; rfl) (by rw [← HWT.out.2]; kernel_rfl) (by rw [← HWT.out.2]; exact (two_one { M with F := F6 } t).2) ?_
      intro v' hq hk
      obtain ⟨k1, k2⟩ := l1.boxAll 0 rfl hq hk
      exact hK undef _ _ (by simp only [Act.put, List.setIfInBounds_toArray, List.set_cons_zero, List.set_cons_succ, Nat.reduceAdd, n1, n1] <;> rfl) ⟨k1, l2.trans k2⟩ ⟨k1.x 3 rfl, k1.x 2 rfl⟩ trivial
    · intro us v hR hn ho K hK
      clear ho
      skip
      rw [if_pos (by rfl)]
      go_simp
      refine hK _ _ _ (by simp only [Act.put, List.setIfInBounds_toArray, List.set_cons_zero, List.set_cons_succ, Nat.reduceAdd] <;> rfl) ?_ hR ⟨fun h => h, fun h => h, fun h => h, trivial⟩
      refine only_mk (v := v) ?_
      with_reducible rfl
  case hla =>
    intro us v hR hl
    obtain ⟨n0, n1, n3, n4, -⟩ := need_last hl [0, 1, 3, 4] (by kernel_rfl)
    have n0 : us 0 = _ := n0
    have n1 : us 1 = _ := n1
    have n4 : us 4 = _ := n4
    skip
    simp only [n0, n1, n4]
    clear hl n0 n1 n4
    obtain ⟨l3, b3⟩ := n3
    have HL3 := Lib.hid l3
    have HB3 := Lib.hid b3
    clear l3 b3 hR
    go_wp2_with fail
    refine ret_two Tryd.results11 (w.heap.size + 1 + 1 + 1) (w.heap.size + 1 + 1 + 1 + 1) 29 29 W T _ (.bool false) rfl (HL3.out.x 1 rfl) rfl (HL3.out.x 0 rfl) rfl Tryd.underlying29 rfl (by rw [← HWT.out.1]; kernel_rfl) (by rw [← HWT.out.2]; kernel_rfl) rfl ?_
    have hfin : PlaySaid B M.p X t false w (.returned (.tuple #[.agg W, .agg T, .bool false])) v := by
      refine ⟨{ M with F := F6 }, rfl, by first | (rw [← HWT.out.1, ← HWT.out.2]; done) | (rw [← HWT.out.1, ← HWT.out.2]; rfl), HL3.out.drop (Y := boxes5 w.heap.size (⟨3, 1, N, x, S⟩ : Act10) W T W T), HB3.out⟩
    exact hfin


end
end Go.Proofs.YtihhflajkohibaaDoor.Pipe
