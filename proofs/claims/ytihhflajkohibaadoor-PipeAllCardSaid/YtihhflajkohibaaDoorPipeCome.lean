/- Layer 10: what is on its way comes to a side. Conditions: the pipe lies (PipeIs); the program's variables are as they were laid (Env); all that is on its way is short. -/
import Derived.Test.YtihhflajkohibaaDoorPipe
namespace Go.Proofs.YtihhflajkohibaaDoor.Pipe
set_option linter.unusedSimpArgs false
set_option linter.unusedVariables false
set_option maxRecDepth 100000
open Go.RowKit
open Go.Proofs.YtihhflajkohibaaDoor
open Go.Proofs.YtihhflajkohibaaDoor.Link (LE Fr EndIs)
open Go.Proofs.YtihhflajkohibaaDoor.Net (NS NetIs)
section
variable {B : Nat} {w : World} {p : Nat} {F : List Nat} {s : PS}
set_option maxHeartbeats 1000000 in
theorem come_no (p : Value) (n : Int) (hn : isSide n = false) (k : Int) (w : World) : Calls Tryd.prog 17 #[p, .int .i64 n, .int .i64 k] w fun e w' => e = .returned (.tuple #[.string ⟨#[]⟩, .bool false]) ∧ w = w' := by
  go_enter Tryd.func17, Tryd.ntmps17
  go_wp2_with fail
  refine (there_no _ n hn _).mono ?_
  rintro e w1 ⟨rfl, rfl⟩
  go_wp2_with fail
  go_ret2
  exact ⟨rfl, rfl⟩
set_option maxHeartbeats 8000000 in
theorem come_yes (h : PipeIs B w p F s) (hv : Env B w) (hsh : Short s.n) (me : Bool) (hg : (s.g me).length ≤ 1000000) (k : Int) : Calls Tryd.prog 17 #[.pointer (some ⟨p, 0, none⟩), .int .i64 (no me), .int .i64 k] w (ActP B w p F (s.come me k) (.tuple #[.string (s.comeS me k), .bool (s.comeB me k)])) := by
  obtain ⟨M, rfl, hl⟩ := h.lay
  obtain ⟨m, r, hm, hr, h1, h2, hm2, hr2, hmr⟩ := no_nat me
  obtain ⟨i0, hi0, hz0, hz1, hz2⟩ := info_parts Link.str_info
  have y4 := (cell_of_block hl.box 4).trans (show (M.cells s)[4]? = some (.pointer (some ⟨M.q, 0, none⟩)) from rfl)
  have m0 : (0 : Int) ≤ (m : Int) := by omega
  have m1 : (m : Int) < 2 := by omega
  have HNOW := Lib.hid (Now.start hl hv)
  have HTM := Lib.hid hm
  obtain ⟨S, hS⟩ : ∃ S, s.look me k = S := ⟨_, rfl⟩
  obtain ⟨ok, hok⟩ : ∃ ok, s.has me k = ok := ⟨_, rfl⟩
  have HLK := Lib.hid (show s.n.look (r : Int) (m : Int) k = S ∧ s.n.isAt (r : Int) (m : Int) k = ok ∧ s.lose me k = { s with n := s.n.deliver (r : Int) (m : Int) k } from by
    rw [← h1, ← h2]; exact ⟨hS, hok, rfl⟩)
  have HSZ := Lib.hid (show S.size ≤ maxLen from by
    have : (s.look me k).size ≤ 100 := hsh.look _ _ _
    rw [hS] at this
    unfold maxLen; omega)
  have HDEF := Lib.hid (show s.frameB me k = (ok && decide ((Frame.why S.data.toList).2 = 0)) ∧ s.frame me k = Frame.get S.data.toList from by
    unfold PS.frameB PS.frame; rw [hS, hok]; exact ⟨rfl, rfl⟩)
  have HG := Lib.hid hg
  have hw1 : IntKind.i64.wrap (1 - (m : Int)) = (r : Int) := by rw [hmr]; exact IntWalk.i64_in _ (by omega)
  rw [h1]
  clear h hl hv hm hr h1 h2 hsh hS hok hg
  go_enter Tryd.func17, Tryd.ntmps17
  go_wp2_with fail
  refine (there_yes _ m hm2 _).mono ?_
  rintro e w1 ⟨rfl, rfl⟩
  go_wp2_with fail
  refine (Net.deliver_any HNOW.out.lay.n (r : Int) (m : Int) k).mono ?_
  rw [HLK.out.1, HLK.out.2.1]
  rintro e w2 ⟨rfl, G', hn, ht⟩
  have hnow2 := HNOW.out.step (HNOW.out.lay.setN HNOW.out.env.le hn ht)
  have hnow3 : Now B w M p s [] { M with G := G' } (s.lose me k) w2 := by rw [HLK.out.2.2]; exact hnow2
  have HN2 := Lib.hid hnow3
  clear hn ht hnow2 hnow3
  cases ok
  · have hfr : s.frameB me k = false := by rw [HDEF.out.1]; rfl
    have HE := Lib.hid (show s.come me k = s.lose me k ∧ s.comeS me k = ⟨#[]⟩ ∧ s.comeB me k = false from by
      unfold PS.come PS.comeS PS.comeB; rw [hfr]; exact ⟨rfl, rfl, rfl⟩)
    clear hfr y4
    go_wp2_with fail
    go_ret2
    show ActP _ _ _ _ _ _ (.returned (.tuple #[.string ⟨#[]⟩, .bool false])) _
    rw [HE.out.1, HE.out.2.1, HE.out.2.2]
    exact HN2.out.is _
  · obtain ⟨f, hf⟩ : ∃ f, Frame.get S.data.toList = f := ⟨_, rfl⟩
    obtain ⟨E, hE⟩ : ∃ E, (Frame.why S.data.toList).2 = E := ⟨_, rfl⟩
    have HFE := Lib.hid (And.intro hf hE)
    clear hf hE y4
    go_wp2_with fail
    refine (Frame.Get_is S f E _ HSZ.out HFE.out.1.symm HFE.out.2.symm HN2.out.env.tab HN2.out.env.err).mono ?_
    rintro e w3 ⟨rfl, hb3⟩
    have HN3 := Lib.hid (HN2.out.after hb3)
    rw [show f.val = .agg #[.int .i64 f.kind, .int .i64 f.epoch, .int .u64 f.seq, .int .u64 f.ack, .string f.body] from rfl]
    clear hb3
    by_cases hE : E = 0
    · have he : (E != 0) = false := by simp [hE]
      have hfr : s.frameB me k = true := by rw [HDEF.out.1, HFE.out.2, hE]; rfl
      have hsf : s.frame me k = f := by rw [HDEF.out.2, HFE.out.1]
      obtain ⟨td, htd⟩ : ∃ td, (s.e me).told f = td := ⟨_, rfl⟩
      obtain ⟨nx, hnx⟩ : ∃ nx, (s.e me).isNext f = nx := ⟨_, rfl⟩
      have HTD := Lib.hid (And.intro htd hnx)
      have HE := Lib.hid (show s.come me k = (s.lose me k).take me f ∧ s.comeS me k = td ∧ s.comeB me k = nx from by
        unfold PS.come PS.comeS PS.comeB; rw [hfr, hsf, htd, hnx]; exact ⟨rfl, rfl, rfl⟩)
      have hba : Below w3.heap.size w3 (w3.alloc (.cells #[.int .i64 f.kind, .int .i64 f.epoch, .int .u64 f.seq, .int .u64 f.ack, .string f.body] 57)) := (Below.refl _ _).alloc (Nat.le_refl _) _
      have HN4 := Lib.hid (HN3.out.more (o := boxT w3.heap.size #[.int .i64 f.kind, .int .i64 f.epoch, .int .u64 f.seq, .int .u64 f.ack, .string f.body] 57) hba (heap_alloc_new w3 _) (boxT_local _ _ _) (fun k hk => by simp [boxT] at hk; omega))
      obtain ⟨C, hC⟩ : ∃ C, ({ M with G := G' } : PM).cells (s.lose me k) = C := ⟨_, rfl⟩
      have HC := Lib.hid hC
      have HCE := Lib.hid (show C[m]? = some (.pointer (some ⟨M.e me, 0, none⟩)) from by rw [← hC, ← HTM.out]; exact cells_e { M with G := G' } (s.lose me k) me)
      have HCG := Lib.hid (show C[2 + m]? = some (sl (M.g me) (s.g me).length) from by rw [← hC, ← HTM.out]; exact cells_g { M with G := G' } (s.lose me k) me)
      have hbx := HN4.out.lay.box
      rw [hC] at hbx
      have HBX := Lib.hid (show (w3.alloc (.cells #[.int .i64 f.kind, .int .i64 f.epoch, .int .u64 f.seq, .int .u64 f.ack, .string f.body] 57)).heap[p]? = some (.cells C 53 (0, 0)) ∧ (w3.alloc (.cells #[.int .i64 f.kind, .int .i64 f.epoch, .int .u64 f.seq, .int .u64 f.ack, .string f.body] 57)).heap[w3.heap.size]? = some (.cells #[.int .i64 f.kind, .int .i64 f.epoch, .int .u64 f.seq, .int .u64 f.ack, .string f.body] 57 (0, 0)) from ⟨hbx, heap_alloc_new w3 _⟩)
      clear hE hfr hsf htd hnx hba hC hbx
      go_wp2_with fail
      refine' wp_flow [only 0 _, only 1 _, only 2 _, only 3 _, only 4 _, only 5 (.pointer (some ⟨M.e me, 0, none⟩)), only 6 (.agg #[.int .i64 f.kind, .int .i64 f.epoch, .int .u64 f.seq, .int .u64 f.ack, .string f.body]), (fun us v => us 7 = .tuple #[.string td, .bool nx] ∧ ∃ F', Now B w M p s [boxT w3.heap.size #[.int .i64 f.kind, .int .i64 f.epoch, .int .u64 f.seq, .int .u64 f.ack, .string f.body] 57] { M with F := up M.F me F', G := G' } { s.lose me k with e := up s.e me ((s.e me).taken f) } v), only 8 (.tuple #[.string td, .bool nx]), only 9 (.string td), only 10 (.bool nx), only 11 (.string td), only 12 (.bool nx), (fun _ v => Now B w M p s [boxT w3.heap.size #[.int .i64 f.kind, .int .i64 f.epoch, .int .u64 f.seq, .int .u64 f.ack, .string f.body] 57] { M with G := G' } (s.lose me k) v)] (fun v => v.heap[p]? = some (.cells C 53 (0, 0)) ∧ v.heap[w3.heap.size]? = some (.cells #[.int .i64 f.kind, .int .i64 f.epoch, .int .u64 f.seq, .int .u64 f.ack, .string f.body] 57 (0, 0))) [[], [], [0], [2], [1, 3], [4], [], [5, 6, 13], [7], [8], [8], [9], [10]] [[], [], [], [], [], [], [], [13], [], [], [], [], []] [[], [], [], [], [], [], [], [], [], [], [], [], []] [[13], [13], [13], [13], [13], [13], [13], [], [7], [7], [7], [7], [7]] [7, 13] [0, 0, 1, 5, 15, 31, 0, 127, 255, 511, 511, 1023, 1535] _ (fun us => ?hfr) (by kernel_rfl) (by kernel_rfl) (by kernel_rfl) ⟨only_still _, only_still _, only_still _, only_still _, only_still _, only_still _, only_still _, trivial, only_still _, only_still _, only_still _, only_still _, only_still _, trivial, trivial⟩ (by exact HBX.out) (by simp) (by exact HN4.out.after (below_drewN (Below.refl _ _) 1)) ?hst ?hla
      case hfr => (simp only [List.cons_append, List.nil_append, putAll, Act.put, List.setIfInBounds_toArray, List.set_cons_zero, List.set_cons_succ, Nat.reduceAdd]; rfl)
      case hst =>
        refine ⟨?_, ?_, ?_, ?_, ?_, ?_, ?_, ?_, ?_, ?_, ?_, ?_, ?_, trivial⟩
        · intro us v hR hn ho K hK
          clear ho
          have y0 := (cell_of_block hR.1 m).trans HCE.out; have z0 := cell_of_block hR.2 0; have z1 := cell_of_block hR.2 1; have z2 := cell_of_block hR.2 2; have z3 := cell_of_block hR.2 3; have z4 := cell_of_block hR.2 4; simp at z0 z1 z2 z3 z4
          rw [if_pos (by rfl)]
          go_simp
          refine hK _ _ _ (by simp only [Act.put, List.setIfInBounds_toArray, List.set_cons_zero, List.set_cons_succ, Nat.reduceAdd] <;> rfl) ?_ hR ⟨fun h => h, trivial⟩
          refine only_mk (v := v) ?_
          with_reducible rfl
        · intro us v hR hn ho K hK
          clear ho
          have y0 := (cell_of_block hR.1 m).trans HCE.out; have z0 := cell_of_block hR.2 0; have z1 := cell_of_block hR.2 1; have z2 := cell_of_block hR.2 2; have z3 := cell_of_block hR.2 3; have z4 := cell_of_block hR.2 4; simp at z0 z1 z2 z3 z4
          rw [if_pos (by rfl)]
          go_simp
          refine hK _ _ _ (by simp only [Act.put, List.setIfInBounds_toArray, List.set_cons_zero, List.set_cons_succ, Nat.reduceAdd] <;> rfl) ?_ hR ⟨fun h => h, trivial⟩
          refine only_mk (v := v) ?_
          with_reducible rfl
        · intro us v hR hn ho K hK
          obtain ⟨n0, -⟩ := hn
          have n0 : us 0 = _ := n0
          clear ho
          have y0 := (cell_of_block hR.1 m).trans HCE.out; have z0 := cell_of_block hR.2 0; have z1 := cell_of_block hR.2 1; have z2 := cell_of_block hR.2 2; have z3 := cell_of_block hR.2 3; have z4 := cell_of_block hR.2 4; simp at z0 z1 z2 z3 z4
          rw [if_pos (by rfl)]
          go_simp
          refine hK _ _ _ (by simp only [Act.put, List.setIfInBounds_toArray, List.set_cons_zero, List.set_cons_succ, Nat.reduceAdd, n0] <;> rfl) ?_ hR ⟨fun h => h, trivial⟩
          refine only_mk (v := v) ?_
          with_reducible rfl
        · intro us v hR hn ho K hK
          obtain ⟨n2, -⟩ := hn
          have n2 : us 2 = _ := n2
          clear ho
          have y0 := (cell_of_block hR.1 m).trans HCE.out; have z0 := cell_of_block hR.2 0; have z1 := cell_of_block hR.2 1; have z2 := cell_of_block hR.2 2; have z3 := cell_of_block hR.2 3; have z4 := cell_of_block hR.2 4; simp at z0 z1 z2 z3 z4
          rw [if_pos (by rfl)]
          go_simp
          refine hK _ _ _ (by simp only [Act.put, List.setIfInBounds_toArray, List.set_cons_zero, List.set_cons_succ, Nat.reduceAdd, n2] <;> rfl) ?_ hR ⟨fun h => h, trivial⟩
          refine only_mk (v := v) ?_
          with_reducible rfl
        · intro us v hR hn ho K hK
          obtain ⟨n1, n3, -⟩ := hn
          have n1 : us 1 = _ := n1
          have n3 : us 3 = _ := n3
          clear ho
          have y0 := (cell_of_block hR.1 m).trans HCE.out; have z0 := cell_of_block hR.2 0; have z1 := cell_of_block hR.2 1; have z2 := cell_of_block hR.2 2; have z3 := cell_of_block hR.2 3; have z4 := cell_of_block hR.2 4; simp at z0 z1 z2 z3 z4
          rw [if_pos (by rfl)]
          go_simp
          refine hK _ _ _ (by simp only [Act.put, List.setIfInBounds_toArray, List.set_cons_zero, List.set_cons_succ, Nat.reduceAdd, n1, n3] <;> rfl) ?_ hR ⟨fun h => h, trivial⟩
          refine only_mk (v := v) ?_
          with_reducible rfl
        · intro us v hR hn ho K hK
          obtain ⟨n4, -⟩ := hn
          have n4 : us 4 = _ := n4
          clear ho
          have y0 := (cell_of_block hR.1 m).trans HCE.out; have z0 := cell_of_block hR.2 0; have z1 := cell_of_block hR.2 1; have z2 := cell_of_block hR.2 2; have z3 := cell_of_block hR.2 3; have z4 := cell_of_block hR.2 4; simp at z0 z1 z2 z3 z4
          rw [if_pos (by rfl)]
          go_simp
          refine hK _ _ _ (by simp only [Act.put, List.setIfInBounds_toArray, List.set_cons_zero, List.set_cons_succ, Nat.reduceAdd, n4] <;> rfl) ?_ hR ⟨fun h => h, trivial⟩
          refine only_mk (v := v) ?_
          with_reducible rfl
        · intro us v hR hn ho K hK
          clear ho
          have y0 := (cell_of_block hR.1 m).trans HCE.out; have z0 := cell_of_block hR.2 0; have z1 := cell_of_block hR.2 1; have z2 := cell_of_block hR.2 2; have z3 := cell_of_block hR.2 3; have z4 := cell_of_block hR.2 4; simp at z0 z1 z2 z3 z4
          rw [if_pos (by rfl)]
          go_simp
          refine hK _ _ _ (by simp only [Act.put, List.setIfInBounds_toArray, List.set_cons_zero, List.set_cons_succ, Nat.reduceAdd] <;> rfl) ?_ hR ⟨fun h => h, trivial⟩
          refine only_mk (v := v) ?_
          with_reducible rfl
        · intro us v hR hn ho K hK
          obtain ⟨n5, n6, ns, -⟩ := hn
          have n5 : us 5 = _ := n5
          have n6 : us 6 = _ := n6
          clear ho
          have y0 := (cell_of_block hR.1 m).trans HCE.out; have z0 := cell_of_block hR.2 0; have z1 := cell_of_block hR.2 1; have z2 := cell_of_block hR.2 2; have z3 := cell_of_block hR.2 3; have z4 := cell_of_block hR.2 4; simp at z0 z1 z2 z3 z4
          rw [if_pos (by rfl)]
          clear y0 z0 z1 z2 z3 z4
          go_simp
          refine (Link.take_any (ns.lay.e me) f).mono ?_
          rw [show ((s.lose me k).e me).told f = td from HTD.out.1, show ((s.lose me k).e me).isNext f = nx from HTD.out.2]
          rintro e v' ⟨rfl, he, ht⟩
          dsimp only
          have hs := ns.step (ns.lay.setE ns.env.le he ht)
          have hbx := hs.lay.box
          exact hK _ _ _ (by simp only [Act.put, List.setIfInBounds_toArray, List.set_cons_zero, List.set_cons_succ, Nat.reduceAdd, n5, n6] <;> rfl) ⟨rfl, _, hs⟩ ⟨by rw [← HC.out]; exact hbx, hs.lay.x 0 rfl⟩ trivial
        · intro us v hR hn ho K hK
          obtain ⟨n7, -⟩ := hn
          clear ho
          have y0 := (cell_of_block hR.1 m).trans HCE.out; have z0 := cell_of_block hR.2 0; have z1 := cell_of_block hR.2 1; have z2 := cell_of_block hR.2 2; have z3 := cell_of_block hR.2 3; have z4 := cell_of_block hR.2 4; simp at z0 z1 z2 z3 z4
          obtain ⟨e7, r7⟩ := n7
          rw [if_pos (by rfl)]
          go_simp
          refine hK _ _ _ (by simp only [Act.put, List.setIfInBounds_toArray, List.set_cons_zero, List.set_cons_succ, Nat.reduceAdd, e7] <;> rfl) ?_ hR ⟨fun h => h, trivial⟩
          exact only_mk (v := v) rfl
        · intro us v hR hn ho K hK
          obtain ⟨n8, -⟩ := hn
          have n8 : us 8 = _ := n8
          clear ho
          have y0 := (cell_of_block hR.1 m).trans HCE.out; have z0 := cell_of_block hR.2 0; have z1 := cell_of_block hR.2 1; have z2 := cell_of_block hR.2 2; have z3 := cell_of_block hR.2 3; have z4 := cell_of_block hR.2 4; simp at z0 z1 z2 z3 z4
          rw [if_pos (by rfl)]
          go_simp
          refine hK _ _ _ (by simp only [Act.put, List.setIfInBounds_toArray, List.set_cons_zero, List.set_cons_succ, Nat.reduceAdd, n8] <;> rfl) ?_ hR ⟨fun h => h, trivial⟩
          refine only_mk (v := v) ?_
          with_reducible rfl
        · intro us v hR hn ho K hK
          obtain ⟨n8, -⟩ := hn
          have n8 : us 8 = _ := n8
          clear ho
          have y0 := (cell_of_block hR.1 m).trans HCE.out; have z0 := cell_of_block hR.2 0; have z1 := cell_of_block hR.2 1; have z2 := cell_of_block hR.2 2; have z3 := cell_of_block hR.2 3; have z4 := cell_of_block hR.2 4; simp at z0 z1 z2 z3 z4
          rw [if_pos (by rfl)]
          go_simp
          refine hK _ _ _ (by simp only [Act.put, List.setIfInBounds_toArray, List.set_cons_zero, List.set_cons_succ, Nat.reduceAdd, n8] <;> rfl) ?_ hR ⟨fun h => h, trivial⟩
          refine only_mk (v := v) ?_
          with_reducible rfl
        · intro us v hR hn ho K hK
          obtain ⟨n9, -⟩ := hn
          have n9 : us 9 = _ := n9
          clear ho
          have y0 := (cell_of_block hR.1 m).trans HCE.out; have z0 := cell_of_block hR.2 0; have z1 := cell_of_block hR.2 1; have z2 := cell_of_block hR.2 2; have z3 := cell_of_block hR.2 3; have z4 := cell_of_block hR.2 4; simp at z0 z1 z2 z3 z4
          rw [if_pos (by rfl)]
          go_simp
          refine hK _ _ _ (by simp only [Act.put, List.setIfInBounds_toArray, List.set_cons_zero, List.set_cons_succ, Nat.reduceAdd, n9] <;> rfl) ?_ hR ⟨fun h => h, trivial⟩
          refine only_mk (v := v) ?_
          with_reducible rfl
        · intro us v hR hn ho K hK
          obtain ⟨n10, -⟩ := hn
          have n10 : us 10 = _ := n10
          clear ho
          have y0 := (cell_of_block hR.1 m).trans HCE.out; have z0 := cell_of_block hR.2 0; have z1 := cell_of_block hR.2 1; have z2 := cell_of_block hR.2 2; have z3 := cell_of_block hR.2 3; have z4 := cell_of_block hR.2 4; simp at z0 z1 z2 z3 z4
          rw [if_pos (by rfl)]
          go_simp
          refine hK _ _ _ (by simp only [Act.put, List.setIfInBounds_toArray, List.set_cons_zero, List.set_cons_succ, Nat.reduceAdd, n10] <;> rfl) ?_ hR ⟨fun h => h, trivial⟩
          refine only_mk (v := v) ?_
          with_reducible rfl
      case hla =>
        intro us v hR hl
        obtain ⟨n0, n1, n2, n3, n4, n5, n6, n7, n8, n9, n10, n11, n12, -⟩ := need_last hl [0, 1, 2, 3, 4, 5, 6, 7, 8, 9, 10, 11, 12] (by kernel_rfl)
        have n0 : us 0 = _ := n0
        have n1 : us 1 = _ := n1
        have n2 : us 2 = _ := n2
        have n3 : us 3 = _ := n3
        have n4 : us 4 = _ := n4
        have n5 : us 5 = _ := n5
        have n6 : us 6 = _ := n6
        have n8 : us 8 = _ := n8
        have n9 : us 9 = _ := n9
        have n10 : us 10 = _ := n10
        have n11 : us 11 = _ := n11
        have n12 : us 12 = _ := n12
        have y0 := (cell_of_block hR.1 m).trans HCE.out; have z0 := cell_of_block hR.2 0; have z1 := cell_of_block hR.2 1; have z2 := cell_of_block hR.2 2; have z3 := cell_of_block hR.2 3; have z4 := cell_of_block hR.2 4; simp at z0 z1 z2 z3 z4
        simp only [n0, n1, n2, n3, n4, n5, n6, n8, n9, n10, n11, n12]
        clear hl n0 n1 n2 n3 n4 n5 n6 n8 n9 n10 n11 n12
        obtain ⟨e7, F', hn7⟩ := n7
        simp only [e7]
        have HN7 := Lib.hid hn7
        clear e7 hn7 hR y0 z0 z1 z2 z3 z4
        cases nx
        · have HE2 := Lib.hid (show (s.lose me k).take me f = { s.lose me k with e := up s.e me ((s.e me).taken f) } from by
            unfold PS.take
            rw [show ((s.lose me k).e me).isNext f = false from HTD.out.2]
            simp only [Bool.false_eq_true, if_false, up_id]
            rfl)
          go_wp2_with fail
          go_ret2
          show ActP _ _ _ _ _ _ (.returned (.tuple #[.string td, .bool false])) _
          rw [HE.out.1, HE.out.2.1, HE.out.2.2, HE2.out]
          exact HN7.out.is _
        · obtain ⟨ys, hys⟩ : ∃ ys, s.g me ++ [td] = ys := ⟨_, rfl⟩
          have HYS := Lib.hid hys
          have HYL := Lib.hid (show (s.g me).length + 1 = ys.length from by rw [← hys]; simp)
          have HYM := Lib.hid (show (s.g me).map Value.string ++ [.string td] = ys.map .string from by rw [← hys]; simp)
          have HE2 := Lib.hid (show (s.lose me k).take me f = { s.lose me k with e := up s.e me ((s.e me).taken f), g := up s.g me ys } from by
            unfold PS.take
            rw [show ((s.lose me k).e me).isNext f = true from HTD.out.2, show ((s.lose me k).e me).told f = td from HTD.out.1]
            simp only [if_true]
            rw [← hys]; rfl)
          clear hys
          go_wp2_with fail
          refine' wp_flow [only 0 _, only 1 _, only 2 _, only 3 _, only 4 _, only 5 _, only 6 _, only 7 (.slice (M.g me).A (s.g me).length (M.g me).c), only 8 _, (fun us v => ∃ g, us 9 = .slice (some ⟨g, 0, none⟩) 1 1 ∧ v.heap[g]? = some (.cells #[.string td] 9 (0, 0))), (fun us v => ∃ arr : Arr, us 10 = sl arr ys.length ∧ Mid B w M p s [boxT w3.heap.size #[.int .i64 f.kind, .int .i64 f.epoch, .int .u64 f.seq, .int .u64 f.ack, .string f.body] 57] { M with F := up M.F me F', G := G' } { s.lose me k with e := up s.e me ((s.e me).taken f) } me arr ys v), only 11 _, only 12 _, only 13 _, (fun _ v => ∃ M3, Now B w M p s [boxT w3.heap.size #[.int .i64 f.kind, .int .i64 f.epoch, .int .u64 f.seq, .int .u64 f.ack, .string f.body] 57] M3 { s.lose me k with e := up s.e me ((s.e me).taken f), g := up s.g me ys } v), (fun _ v => Now B w M p s [boxT w3.heap.size #[.int .i64 f.kind, .int .i64 f.epoch, .int .u64 f.seq, .int .u64 f.ack, .string f.body] 57] { M with F := up M.F me F', G := G' } { s.lose me k with e := up s.e me ((s.e me).taken f) } v)] (fun _ => True) [[], [], [], [], [2], [4], [3, 5], [6, 15], [], [8], [7, 9, 15], [0], [11], [1, 12], [10, 13]] [[], [], [], [], [], [], [], [], [], [], [9, 15], [], [], [], [10]] [[], [], [], [], [], [], [], [], [], [], [], [], [], [], []] [[9, 10, 15], [9, 10, 15], [9, 15], [9, 15], [9, 15], [9, 15], [9, 15], [9, 15], [15], [15], [], [9, 10, 15], [9, 10, 15], [9, 10, 15], []] [9, 10, 14, 15] [0, 0, 0, 0, 4, 20, 60, 124, 0, 256, 1020, 1, 2049, 6147, 16383] _ (fun us => ?hfr) (by kernel_rfl) (by kernel_rfl) (by kernel_rfl) ⟨only_still _, only_still _, only_still _, only_still _, only_still _, only_still _, only_still _, only_still _, only_still _, trivial, trivial, only_still _, only_still _, only_still _, trivial, trivial, trivial⟩ (trivial) (by simp) (by exact HN7.out.after (below_drewN (Below.refl _ _) 1)) ?hst ?hla
          case hfr => (simp only [List.cons_append, List.nil_append, putAll, Act.put, List.setIfInBounds_toArray, List.set_cons_zero, List.set_cons_succ, Nat.reduceAdd]; rfl)
          case hst =>
            refine ⟨?_, ?_, ?_, ?_, ?_, ?_, ?_, ?_, ?_, ?_, ?_, ?_, ?_, ?_, ?_, trivial⟩
            · intro us v hR hn ho K hK
              clear ho
              skip
              rw [if_pos (by rfl)]
              go_simp
              refine hK _ _ _ (by simp only [Act.put, List.setIfInBounds_toArray, List.set_cons_zero, List.set_cons_succ, Nat.reduceAdd] <;> rfl) ?_ hR ⟨fun h => h, fun h => h, fun h => h, trivial⟩
              refine only_mk (v := v) ?_
              with_reducible rfl
            · intro us v hR hn ho K hK
              clear ho
              skip
              rw [if_pos (by rfl)]
              go_simp
              refine hK _ _ _ (by simp only [Act.put, List.setIfInBounds_toArray, List.set_cons_zero, List.set_cons_succ, Nat.reduceAdd] <;> rfl) ?_ hR ⟨fun h => h, fun h => h, fun h => h, trivial⟩
              refine only_mk (v := v) ?_
              with_reducible rfl
            · intro us v hR hn ho K hK
              clear ho
              skip
              rw [if_pos (by rfl)]
              go_simp
              refine hK _ _ _ (by simp only [Act.put, List.setIfInBounds_toArray, List.set_cons_zero, List.set_cons_succ, Nat.reduceAdd] <;> rfl) ?_ hR ⟨fun h => h, fun h => h, trivial⟩
              refine only_mk (v := v) ?_
              with_reducible rfl
            · intro us v hR hn ho K hK
              clear ho
              skip
              rw [if_pos (by rfl)]
              go_simp
              refine hK _ _ _ (by simp only [Act.put, List.setIfInBounds_toArray, List.set_cons_zero, List.set_cons_succ, Nat.reduceAdd] <;> rfl) ?_ hR ⟨fun h => h, fun h => h, trivial⟩
              refine only_mk (v := v) ?_
              with_reducible rfl
            · intro us v hR hn ho K hK
              obtain ⟨n2, -⟩ := hn
              have n2 : us 2 = _ := n2
              clear ho
              skip
              rw [if_pos (by rfl)]
              go_simp
              refine hK _ _ _ (by simp only [Act.put, List.setIfInBounds_toArray, List.set_cons_zero, List.set_cons_succ, Nat.reduceAdd, n2] <;> rfl) ?_ hR ⟨fun h => h, fun h => h, trivial⟩
              refine only_mk (v := v) ?_
              with_reducible rfl
            · intro us v hR hn ho K hK
              obtain ⟨n4, -⟩ := hn
              have n4 : us 4 = _ := n4
              clear ho
              skip
              rw [if_pos (by rfl)]
              go_simp
              refine hK _ _ _ (by simp only [Act.put, List.setIfInBounds_toArray, List.set_cons_zero, List.set_cons_succ, Nat.reduceAdd, n4] <;> rfl) ?_ hR ⟨fun h => h, fun h => h, trivial⟩
              refine only_mk (v := v) ?_
              with_reducible rfl
            · intro us v hR hn ho K hK
              obtain ⟨n3, n5, -⟩ := hn
              have n3 : us 3 = _ := n3
              have n5 : us 5 = _ := n5
              clear ho
              skip
              rw [if_pos (by rfl)]
              go_simp
              refine hK _ _ _ (by simp only [Act.put, List.setIfInBounds_toArray, List.set_cons_zero, List.set_cons_succ, Nat.reduceAdd, n3, n5] <;> rfl) ?_ hR ⟨fun h => h, fun h => h, trivial⟩
              refine only_mk (v := v) ?_
              with_reducible rfl
            · intro us v hR hn ho K hK
              obtain ⟨n6, ns, -⟩ := hn
              have n6 : us 6 = _ := n6
              clear ho
              skip
              have y0 := (cell_of_block ns.lay.box (2 + m)).trans (show _ from (congrArg (fun C : Array Value => C[2 + m]?) HC.out).trans HCG.out)
              unfold sl at y0
              rw [if_pos (by rfl)]
              go_simp
              refine hK _ _ _ (by simp only [Act.put, List.setIfInBounds_toArray, List.set_cons_zero, List.set_cons_succ, Nat.reduceAdd, n6] <;> rfl) ?_ hR ⟨fun h => h, fun h => h, trivial⟩
              refine only_mk (v := v) ?_
              with_reducible rfl
            · intro us v hR hn ho K hK
              clear ho
              skip
              rw [if_pos (by rfl)]
              go_simp
              refine hK _ _ _ (by simp only [Act.put, List.setIfInBounds_toArray, List.set_cons_zero, List.set_cons_succ, Nat.reduceAdd] <;> rfl) ?_ hR ⟨fun h => h, trivial⟩
              refine only_mk (v := v) ?_
              with_reducible rfl
            · intro us v hR hn ho K hK
              obtain ⟨n8, -⟩ := hn
              have n8 : us 8 = _ := n8
              clear ho
              skip
              rw [if_pos (by rfl)]
              go_simp
              exact hK _ _ _ (by simp only [Act.put, List.setIfInBounds_toArray, List.set_cons_zero, List.set_cons_succ, Nat.reduceAdd, n8] <;> rfl) ⟨_, rfl, heap_alloc_new v _⟩ trivial ⟨fun h => h.after ((Below.refl _ _).alloc (Nat.le_refl _) _), trivial⟩
            · intro us v hR hn ho K hK
              obtain ⟨n7, n9, ns, -⟩ := hn
              have n7 : us 7 = _ := n7
              clear ho
              skip
              obtain ⟨g9, n9, hg9⟩ := n9
              refine step_append_vec _ (by rfl) (.tmp 57) (.tmp 59) 28 28 (by rfl) 9 i0 _ 1 16 Tryd.underlying28 hi0 hz0 hz1 hz2 rfl (M.g me).F (M.g me).A (s.g me).length (M.g me).c ((s.g me).map .string) (.slice (some ⟨g9, 0, none⟩) 1 1) 1 [.string td] n7 n9 (ns.lay.g me) (src_new _ Tryd.underlying28 [.string td] 1 1 1 rfl (by simp [Value.oneCell']) _ hg9) (by have := HG.out; unfold maxLen; omega) (by have := HG.out; omega) ?_
              intro v' w5 happ
              rw [HYL.out, HYM.out] at happ
              obtain ⟨F6, A6, c6, rfl, hv6, ht6⟩ := happ.all
              have hm := ns.grow (me := me) (a := ⟨A6, c6, F6⟩) (l := ys) hv6 ht6
              exact hK _ _ _ (by simp only [Act.put, List.setIfInBounds_toArray, List.set_cons_zero, List.set_cons_succ, Nat.reduceAdd, n7, n7, n9] <;> rfl) ⟨⟨A6, c6, F6⟩, rfl, hm⟩ trivial trivial
            · intro us v hR hn ho K hK
              obtain ⟨n0, -⟩ := hn
              have n0 : us 0 = _ := n0
              clear ho
              skip
              rw [if_pos (by rfl)]
              go_simp
              refine hK _ _ _ (by simp only [Act.put, List.setIfInBounds_toArray, List.set_cons_zero, List.set_cons_succ, Nat.reduceAdd, n0] <;> rfl) ?_ hR ⟨fun h => h, fun h => h, fun h => h, trivial⟩
              refine only_mk (v := v) ?_
              with_reducible rfl
            · intro us v hR hn ho K hK
              obtain ⟨n11, -⟩ := hn
              have n11 : us 11 = _ := n11
              clear ho
              skip
              rw [if_pos (by rfl)]
              go_simp
              refine hK _ _ _ (by simp only [Act.put, List.setIfInBounds_toArray, List.set_cons_zero, List.set_cons_succ, Nat.reduceAdd, n11] <;> rfl) ?_ hR ⟨fun h => h, fun h => h, fun h => h, trivial⟩
              refine only_mk (v := v) ?_
              with_reducible rfl
            · intro us v hR hn ho K hK
              obtain ⟨n1, n12, -⟩ := hn
              have n1 : us 1 = _ := n1
              have n12 : us 12 = _ := n12
              clear ho
              skip
              rw [if_pos (by rfl)]
              go_simp
              refine hK _ _ _ (by simp only [Act.put, List.setIfInBounds_toArray, List.set_cons_zero, List.set_cons_succ, Nat.reduceAdd, n1, n12] <;> rfl) ?_ hR ⟨fun h => h, fun h => h, fun h => h, trivial⟩
              refine only_mk (v := v) ?_
              with_reducible rfl
            · intro us v hR hn ho K hK
              obtain ⟨n10, n13, -⟩ := hn
              have n13 : us 13 = _ := n13
              clear ho
              skip
              obtain ⟨arr, n10, hm⟩ := n10
              have y0 := (cell_of_block hm.box (2 + m)).trans (show _ from (congrArg (fun C : Array Value => C[2 + m]?) HC.out).trans HCG.out)
              have f0 := frozen_of_block hm.box (2 + m)
              have h2 := Lib.hid (hm.set HTM.out)
              clear hm
              unfold sl at n10 y0
              rw [if_pos (by rfl)]
              go_simp
              exact hK undef _ _ (by simp only [Act.put, List.setIfInBounds_toArray, List.set_cons_zero, List.set_cons_succ, Nat.reduceAdd, n13, n10] <;> rfl) ⟨_, h2.out⟩ trivial trivial
          case hla =>
            intro us v hR hl
            obtain ⟨n0, n1, n2, n3, n4, n5, n6, n7, n8, n11, n12, n13, n14, -⟩ := need_last hl [0, 1, 2, 3, 4, 5, 6, 7, 8, 11, 12, 13, 14] (by kernel_rfl)
            have n0 : us 0 = _ := n0
            have n1 : us 1 = _ := n1
            have n2 : us 2 = _ := n2
            have n3 : us 3 = _ := n3
            have n4 : us 4 = _ := n4
            have n5 : us 5 = _ := n5
            have n6 : us 6 = _ := n6
            have n7 : us 7 = _ := n7
            have n8 : us 8 = _ := n8
            have n11 : us 11 = _ := n11
            have n12 : us 12 = _ := n12
            have n13 : us 13 = _ := n13
            skip
            simp only [n0, n1, n2, n3, n4, n5, n6, n7, n8, n11, n12, n13]
            clear hl n0 n1 n2 n3 n4 n5 n6 n7 n8 n11 n12 n13
            obtain ⟨M3, hn14⟩ := n14
            have HN14 := Lib.hid hn14
            clear hn14
            go_wp2_with fail
            go_ret2
            show ActP _ _ _ _ _ _ (.returned (.tuple #[.string td, .bool true])) _
            rw [HE.out.1, HE.out.2.1, HE.out.2.2, HE2.out]
            exact HN14.out.is _
    · have he : (E != 0) = true := by simp [hE]
      have hfr : s.frameB me k = false := by rw [HDEF.out.1, HFE.out.2]; simp [hE]
      have HE := Lib.hid (show s.come me k = s.lose me k ∧ s.comeS me k = ⟨#[]⟩ ∧ s.comeB me k = false from by
        unfold PS.come PS.comeS PS.comeB; rw [hfr]; exact ⟨rfl, rfl, rfl⟩)
      clear hE hfr
      go_wp2_with fail
      go_ret2
      show ActP _ _ _ _ _ _ (.returned (.tuple #[.string ⟨#[]⟩, .bool false])) _
      rw [HE.out.1, HE.out.2.1, HE.out.2.2]
      exact (HN3.out.after ((Below.refl _ _).alloc (Nat.le_refl _) _)).is _
end
end Go.Proofs.YtihhflajkohibaaDoor.Pipe
