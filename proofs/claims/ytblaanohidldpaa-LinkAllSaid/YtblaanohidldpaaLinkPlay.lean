/- Layer 9: an act of two ends. Conditions: all lie apart from each other (Lay). -/
import Derived.Test.YtblaanohidldpaaLinkT2
import Derived.Test.YtblaanohidldpaaFlow
import Derived.Deep.CutBlock
import Derived.Deep.DeepCutAuto
import Derived.Deep.QuietTactic
import Derived.Outline
namespace Go.Proofs.Ytblaanohidldpaa.Link
set_option linter.unusedSimpArgs false
set_option linter.unusedVariables false
open Go.RowKit
def zero8 : Array Value := #[.pointer none, .pointer none, .slice none 0 0, .slice none 0 0, .slice none 0 0, .slice none 0 0, .slice none 0 0, .slice none 0 0]
def T2.play (t : T2) (a : Act9) : T2 :=
  if a.K = 0 then t.send a.side a.S else if a.K = 1 then t.out a.side else if a.K = 2 then t.tick a.side else
  if h : 0 ≤ a.N ∧ a.N.toNat < (t.o (!a.side)).length then t.take a.side ((t.o (!a.side))[a.N.toNat]'h.2) else t
/-- the three boxes of a play -/
def boxes3 (b : Nat) (C : Array Value) (a : Act9) : List Thing := [boxT b C 60, boxT (b + 1) a.cells.toArray 44, boxT (b + 2) zero8 60]
def PlaySaid (B : Nat) (X : List Thing) (t : T2) (w : World) (e : Ending) (w' : World) : Prop := ∃ M' : Mem2, e = .returned (.agg (M'.cells t)) ∧ Lay B M' t X w' ∧ Below B w w'
def PlayMid (B : Nat) (X : List Thing) (t : T2) (a : Act9) (w wx : World) : Prop := ∃ M' : Mem2, Lay B M' (t.play a) (boxes3 w.heap.size (M'.cells (t.play a)) a ++ X) wx ∧ Below B w wx
structure Sizes (t : T2) (n : Nat) : Prop where
  o : ∀ b, (t.o b).length ≤ n
  s : ∀ b, (t.s b).length ≤ n
  g : ∀ b, (t.g b).length ≤ n
section
variable {B : Nat} {M : Mem2} {t : T2} {X : List Thing} {w : World}
theorem upB_id {α : Type} (f : Bool → α) (b : Bool) : upB f b (f b) = f := by
  funext c; unfold upB; split
  · next h => rw [h]
  · rfl
theorem mid_e {v : World} {C : Array Value} {a : Act9} {b : Nat} {me : Bool} {F' : List Nat} {z : LE} {t' : T2} (hC : M.cells t = C) (ht' : t' = { t with e := upB t.e me z }) (hl : Lay B { M with F := upB M.F me F' } { t with e := upB t.e me z } (boxes3 b C a ++ X) v) : ∃ M' : Mem2, Lay B M' t' (boxes3 b (M'.cells t') a ++ X) v := by
  subst ht'; subst hC
  exact ⟨{ M with F := upB M.F me F' }, hl⟩
theorem mid_s {v : World} {C : Array Value} {a : Act9} {b m : Nat} {me : Bool} {F' : List Nat} {z : LE} {arr : Arr} {l : List ByteArray} {t' : T2} (hm : me.toNat = m) (hC : M.cells t = C) (ht' : t' = { t with e := upB t.e me z, s := upB t.s me l })
    (hl : Lay B { M with F := upB M.F me F', s := upB M.s me arr } { t with e := upB t.e me z, s := upB t.s me l } (boxes3 b (C.setIfInBounds (4 + m) (sl arr l.length)) a ++ X) v) : ∃ M' : Mem2, Lay B M' t' (boxes3 b (M'.cells t') a ++ X) v := by
  subst ht'; subst hC; subst hm
  rw [set_s M t me arr l] at hl
  exact ⟨{ M with F := upB M.F me F', s := upB M.s me arr }, hl⟩
theorem mid_g {v : World} {C : Array Value} {a : Act9} {b m : Nat} {me : Bool} {F' : List Nat} {z : LE} {arr : Arr} {l : List ByteArray} {t' : T2} (hm : me.toNat = m) (hC : M.cells t = C) (ht' : t' = { t with e := upB t.e me z, g := upB t.g me l })
    (hl : Lay B { M with F := upB M.F me F', g := upB M.g me arr } { t with e := upB t.e me z, g := upB t.g me l } (boxes3 b (C.setIfInBounds (6 + m) (sl arr l.length)) a ++ X) v) : ∃ M' : Mem2, Lay B M' t' (boxes3 b (M'.cells t') a ++ X) v := by
  subst ht'; subst hC; subst hm
  rw [set_g M t me arr l] at hl
  exact ⟨{ M with F := upB M.F me F', g := upB M.g me arr }, hl⟩
theorem mid_o {v : World} {C : Array Value} {a : Act9} {b m : Nat} {me : Bool} {F' : List Nat} {z : LE} {arr : Arr} {l : List Fr} {t' : T2} (hm : me.toNat = m) (hC : M.cells t = C) (ht' : t' = { t with e := upB t.e me z, o := upB t.o me l })
    (hl : Lay B { M with F := upB M.F me F', o := upB M.o me arr } { t with e := upB t.e me z, o := upB t.o me l } (boxes3 b (C.setIfInBounds (2 + m) (sl arr l.length)) a ++ X) v) : ∃ M' : Mem2, Lay B M' t' (boxes3 b (M'.cells t') a ++ X) v := by
  subst ht'; subst hC; subst hm
  rw [set_o M t me arr l] at hl
  exact ⟨{ M with F := upB M.F me F', o := upB M.o me arr }, hl⟩
/-- while frames go out: ahead of the call, and behind it -/
def OutS (B : Nat) (X : List Thing) (M : Mem2) (t : T2) (me : Bool) (C : Array Value) (a : Act9) (w : World) (x : Value) (v : World) : Prop :=
  (x = undef ∧ Lay B M t (boxes3 w.heap.size C a ++ X) v ∧ Below B w v) ∨ (x ≠ undef ∧ ∃ F', Lay B { M with F := upB M.F me F' } { t with e := upB t.e me (t.e me).gone } (boxes3 w.heap.size C a ++ X) v ∧ Below B w v)
theorem OutS.box {me : Bool} {C : Array Value} {a : Act9} {x : Value} {v : World} (h : OutS B X M t me C a w x v) : v.heap[w.heap.size]? = some (.cells C 60 (0, 0)) := by
  rcases h with ⟨_, h, _⟩ | ⟨_, F', h, _⟩
  · exact h.x 0 rfl
  · exact h.x 0 rfl
theorem OutS.first {me : Bool} {C : Array Value} {a : Act9} {x : Value} {v : World} (e : x = undef) (h : OutS B X M t me C a w x v) : Lay B M t (boxes3 w.heap.size C a ++ X) v ∧ Below B w v := by
  rcases h with ⟨_, h⟩ | ⟨h, _⟩
  · exact h
  · exact absurd e h
theorem OutS.second {me : Bool} {C : Array Value} {a : Act9} {x : Value} {v : World} (e : x ≠ undef) (h : OutS B X M t me C a w x v) : ∃ F', Lay B { M with F := upB M.F me F' } { t with e := upB t.e me (t.e me).gone } (boxes3 w.heap.size C a ++ X) v ∧ Below B w v := by
  rcases h with ⟨h, _⟩ | ⟨_, h⟩
  · exact absurd h e
  · exact h
theorem goes_le {x : LE} (hx : x.Ok) : x.goes.length ≤ 1000 := by
  have h1 := hx.w8
  unfold LE.goes
  rw [List.length_append]
  unfold LE.datas LE.acks LE.most
  rw [List.length_map, List.length_range']
  split <;> simp <;> omega
theorem fr_cells_one (l : List Fr) : ∀ u ∈ l.flatMap Fr.cells, u.oneCell' = true := by
  intro u hu
  obtain ⟨f, _, hf⟩ := List.mem_flatMap.1 hu
  simp [Fr.cells] at hf
  rcases hf with rfl | rfl | rfl | rfl | rfl <;> rfl
theorem play_else (t : T2) (a : Act9) (me : Bool) (hme : a.side = me) (h0 : ¬ a.K = 0) (h1 : ¬ a.K = 1) (h2 : ¬ a.K = 2) : t.play a = if h : 0 ≤ a.N ∧ a.N.toNat < (t.o (!me)).length then t.take me ((t.o (!me))[a.N.toNat]'h.2) else t := by
  subst hme
  unfold T2.play
  rw [if_neg h0, if_neg h1, if_neg h2]
theorem frame_in {w : World} {F : List Nat} {A : Option Addr} {n c g o k : Nat} {l : List Fr} {f : Fr} (hv : Vec w F 5 A n c (l.flatMap Fr.cells)) (hA : A = some ⟨g, o, none⟩) (hf : l[k]? = some f) : FrAt w g (o + k * 5) f := by
  rcases vec_frame hv with rfl | ⟨g', o', e, _, _, h⟩
  · simp at hf
  · rw [hA] at e
    injection e with e
    injection e with e1 e2
    subst e1; subst e2
    exact h k f hf
theorem cells_one (M : Mem2) (t : T2) : (M.cells t).all (·.oneCell') = true := by simp [Mem2.cells, sl, Value.oneCell']
/-- the first three boxes away -/
theorem Lay.unbox {v : World} {b0 b1 b2 : Thing} (h : Lay B M t ([b0, b1, b2] ++ X) v) : Lay B M t X v := by
  have h1 : Sep B v ([b0, b1, b2] ++ (things M t ++ X)) := by
    refine Sep.perm h ?_
    rw [← List.append_assoc, ← List.append_assoc]
    exact List.perm_append_comm.append_right X
  exact h1.tail.tail.tail
theorem Lay.boxes (h : Lay B M t X w) (hB : B ≤ w.heap.size) {w3 : World} {C : Array Value} {a : Act9} (hb3 : Below w.heap.size w w3) (q0 : w3.heap[w.heap.size]? = some (.cells C 60 (0, 0))) (q1 : w3.heap[w.heap.size + 1]? = some (.cells a.cells.toArray 44 (0, 0))) (q2 : w3.heap[w.heap.size + 2]? = some (.cells zero8 60 (0, 0))) : Lay B M t (boxes3 w.heap.size C a ++ X) w3 := by
  have h3 : Sep B w3 (things M t ++ X) := h.after hb3
  have ap : ∀ g, w.heap.size ≤ g → ∀ n, n ∈ things M t ++ X → ∀ k, k ∈ [g] → k ∉ n.F := fun g hg n hn k hk hm => by
    have := Sep.lt h hn hm
    simp at hk; omega
  have s2 : Sep B w3 (boxT (w.heap.size + 2) zero8 60 :: (things M t ++ X)) := .cons _ _ q2 (boxT_local _ _ _) (fun k hk => by simp [boxT] at hk; omega) (ap _ (by omega)) h3
  have s1 : Sep B w3 (boxT (w.heap.size + 1) a.cells.toArray 44 :: boxT (w.heap.size + 2) zero8 60 :: (things M t ++ X)) := by
    refine .cons _ _ q1 (boxT_local _ _ _) (fun k hk => by simp [boxT] at hk; omega) (fun n hn => ?_) s2
    rcases List.mem_cons.1 hn with rfl | hn
    · intro k hk; simp [boxT] at hk ⊢; omega
    · exact ap _ (by omega) n hn
  have s0 : Sep B w3 (boxes3 w.heap.size C a ++ (things M t ++ X)) := by
    refine .cons _ _ q0 (boxT_local _ _ _) (fun k hk => by simp [boxT] at hk; omega) (fun n hn => ?_) s1
    rcases List.mem_cons.1 hn with rfl | hn
    · intro k hk; simp [boxT] at hk ⊢; omega
    · rcases List.mem_cons.1 hn with rfl | hn
      · intro k hk; simp [boxT] at hk ⊢; omega
      · exact ap _ (by omega) n hn
  refine Sep.perm s0 ?_
  rw [← List.append_assoc, ← List.append_assoc]
  exact List.perm_append_comm.append_right X
set_option maxRecDepth 100000 in
set_option maxHeartbeats 8000000 in
theorem play_any (h : Lay B M t X w) (hB : B ≤ w.heap.size) (hs : Sizes t 100000) (a : Act9) :
    Calls Try.prog 24 #[.agg (M.cells t), .agg a.cells.toArray] w (PlaySaid B X (t.play a) w) := by
  obtain ⟨C, hC⟩ : ∃ C, M.cells t = C := ⟨_, rfl⟩
  rw [hC]
  have HC := Lib.hid hC
  clear hC
  obtain ⟨w3, hw3⟩ : ∃ w3, ((w.alloc (.cells C 60)).alloc (.cells a.cells.toArray 44)).alloc (.cells zero8 60) = w3 := ⟨_, rfl⟩
  have hb3 : Below w.heap.size w w3 := by rw [← hw3]; exact (((Below.refl _ _).alloc (Nat.le_refl _) _).alloc (by simp) _).alloc (by simp; omega) _
  unfold zero8 at hw3
  have HW3 := Lib.hid hw3
  clear hw3
  go_enter Try.func24, Try.ntmps24
  have hlay : Lay B M t (boxes3 w.heap.size C a ++ X) w3 := by
    have h3 := h.after hb3
    have q0 : w3.heap[w.heap.size]? = some (.cells C 60 (0, 0)) := by
      rw [← HW3.out, Below.heap_alloc _ _ _ (by simp; omega), Below.heap_alloc _ _ _ (by simp)]; exact heap_alloc_new w _
    have q1 : w3.heap[w.heap.size + 1]? = some (.cells a.cells.toArray 44 (0, 0)) := by
      rw [← HW3.out, Below.heap_alloc _ _ _ (by simp)]; exact heap_new_at _ _ _ (by simp)
    have q2 : w3.heap[w.heap.size + 2]? = some (.cells zero8 60 (0, 0)) := by
      rw [← HW3.out]; exact heap_new_at _ _ _ (by simp)
    exact h.boxes hB hb3 q0 q1 q2
  have HL3 := Lib.hid hlay
  have HB3 := Lib.hid hb3
  clear hlay hb3 h
  go_upto_region 1 with fail
  rw [HW3.out]
  have x0 := cell_of_block (HL3.out.x 1 rfl) 0
  have x1 := cell_of_block (HL3.out.x 1 rfl) 1
  have x2 := cell_of_block (HL3.out.x 1 rfl) 2
  have x3 := cell_of_block (HL3.out.x 1 rfl) 3
  have x4 := cell_of_block (HL3.out.x 1 rfl) 4
  have x5 := cell_of_block (HL3.out.x 1 rfl) 5
  have x6 := cell_of_block (HL3.out.x 1 rfl) 6
  have x7 := cell_of_block (HL3.out.x 1 rfl) 7
  have x8 := cell_of_block (HL3.out.x 1 rfl) 8
  simp [Act9.cells] at x0 x1 x2 x3 x4 x5 x6 x7 x8
  go_wp2_with fail
  refine (side_any a _).mono ?_
  rintro e w4 ⟨rfl, hb4⟩
  have HL4 := Lib.hid (HL3.out.after hb4)
  have HB4 := Lib.hid (HB3.out.trans (hb4.mono HB3.out.size))
  obtain ⟨me, hme⟩ : ∃ me, a.side = me := ⟨_, rfl⟩
  rw [hme]
  clear hb4 x0 x1 x2 x3 x4 x5 x6 x7 x8
  obtain ⟨m, hm⟩ : ∃ m : Nat, me.toNat = m := ⟨_, rfl⟩
  have hm2 : m < 2 := by rw [← hm]; cases me <;> decide
  have HM := Lib.hid hm
  have HME := Lib.hid hme
  rw [hm]
  have m0 : (0 : Int) ≤ (m : Int) := by omega
  have m2 : (m : Int) < 2 := by omega
  clear hm hme
  have hx0 : w4.heap[w.heap.size + 1]? = some (.cells a.cells.toArray 44 (0, 0)) := HL4.out.x 1 rfl
  have x0 := cell_of_block hx0 0
  have x1 := cell_of_block hx0 1
  simp [Act9.cells] at x0 x1
  clear hx0
  have HCE := Lib.hid (show C[m]? = some (.pointer (some ⟨M.p me, 0, none⟩)) from by rw [← HC.out, ← HM.out]; exact cells_e M t me)
  have HCO := Lib.hid (show C[2 + m]? = some (sl (M.o me) (t.o me).length) from by rw [← HC.out, ← HM.out]; exact cells_o M t me)
  have HCS := Lib.hid (show C[4 + m]? = some (sl (M.s me) (t.s me).length) from by rw [← HC.out, ← HM.out]; exact cells_s M t me)
  have HCG := Lib.hid (show C[6 + m]? = some (sl (M.g me) (t.g me).length) from by rw [← HC.out, ← HM.out]; exact cells_g M t me)
  have HC2 := Lib.hid (show C[2 + (1 - m)]? = some (sl (M.o (!me)) (t.o (!me)).length) from by rw [← HC.out, show 1 - m = (!me).toNat from by rw [← HM.out]; cases me <;> rfl]; exact cells_o M t (!me))
  obtain ⟨i0, hi0, hz0, hz1, hz2⟩ := info_parts str_info
  obtain ⟨i1, hi1, hy0, hy1, hy2⟩ := info_parts frame_info
  have HSZ := Lib.hid hs
  clear hs
  go_upto_block 0 with fail
  go_cut [] (fun wx => PlayMid B X t a w wx)
  case first =>
    by_cases h0 : a.K = 0
    · have HP := Lib.hid (show t.play a = t.send me a.S from by unfold T2.play; rw [if_pos h0, HME.out])
      have q0 : (a.K == 0) = true := beq_iff_eq.2 h0
      obtain ⟨E, hE⟩ : ∃ E, (t.e me).sendE a.S = E := ⟨_, rfl⟩
      have HE := Lib.hid hE
      obtain ⟨q, hq⟩ : ∃ q, (E == 0) = q := ⟨_, rfl⟩
      have HQ := Lib.hid hq
      clear h0 x0 x1 hE
      go_wp2_with fail
      refine' wp_flow [only 0 _, only 1 _, only 2 _, only 3 (.pointer (some ⟨M.p me, 0, none⟩)), only 4 _, only 5 (.string a.S), (fun us v => us 6 = .int .i64 E ∧ ∃ F', Lay B { M with F := upB M.F me F' } { t with e := upB t.e me ((t.e me).sent a.S) } (boxes3 w.heap.size C a ++ X) v ∧ Below B w v), only 7 (.bool q), (fun _ v => Lay B M t (boxes3 w.heap.size C a ++ X) v ∧ Below B w v)] (fun v => v.heap[w.heap.size]? = some (.cells C 60 (0, 0)) ∧ v.heap[w.heap.size + 1]? = some (.cells a.cells.toArray 44 (0, 0))) [[], [], [0, 1], [2], [], [4], [3, 5, 8], [6]] [[], [], [], [], [], [], [8], []] [[], [], [], [], [], [], [], []] [[8], [8], [8], [8], [8], [8], [], [6]] [6, 8] [0, 0, 3, 7, 0, 16, 63, 127] _ (fun us => ?hfr) (by kernel_rfl) (by kernel_rfl) (by kernel_rfl) ⟨only_still _, only_still _, only_still _, only_still _, only_still _, only_still _, trivial, only_still _, trivial, trivial⟩ (⟨HL4.out.x 0 rfl, HL4.out.x 1 rfl⟩) (by simp) (⟨HL4.out.after (below_drewN (Below.refl _ _) 1), below_drewN (HB4.out.mono hB) 1⟩) ?hst ?hla
      case hfr => (simp only [List.cons_append, List.nil_append, putAll, Act.put, List.setIfInBounds_toArray, List.set_cons_zero, List.set_cons_succ, Nat.reduceAdd]; rfl)
      case hst =>
        refine ⟨?_, ?_, ?_, ?_, ?_, ?_, ?_, ?_, trivial⟩
        · intro us v hR hn ho K hK
          clear ho
          have y0 := (cell_of_block hR.1 m).trans HCE.out; have y3 := cell_of_block hR.2 3; simp [Act9.cells] at y3
          rw [if_pos (by rfl)]
          go_simp
          refine hK _ _ _ (by simp only [Act.put, List.setIfInBounds_toArray, List.set_cons_zero, List.set_cons_succ, Nat.reduceAdd] <;> rfl) ?_ hR ⟨fun h => h, trivial⟩
          refine only_mk (v := v) ?_
          with_reducible rfl
        · intro us v hR hn ho K hK
          clear ho
          have y0 := (cell_of_block hR.1 m).trans HCE.out; have y3 := cell_of_block hR.2 3; simp [Act9.cells] at y3
          rw [if_pos (by rfl)]
          go_simp
          refine hK _ _ _ (by simp only [Act.put, List.setIfInBounds_toArray, List.set_cons_zero, List.set_cons_succ, Nat.reduceAdd] <;> rfl) ?_ hR ⟨fun h => h, trivial⟩
          refine only_mk (v := v) ?_
          with_reducible rfl
        · intro us v hR hn ho K hK
          obtain ⟨n0, n1, -⟩ := hn
          have n0 : us 0 = _ := n0
          have n1 : us 1 = _ := n1
          clear ho
          have y0 := (cell_of_block hR.1 m).trans HCE.out; have y3 := cell_of_block hR.2 3; simp [Act9.cells] at y3
          rw [if_pos (by rfl)]
          go_simp
          refine hK _ _ _ (by simp only [Act.put, List.setIfInBounds_toArray, List.set_cons_zero, List.set_cons_succ, Nat.reduceAdd, n0, n1] <;> rfl) ?_ hR ⟨fun h => h, trivial⟩
          refine only_mk (v := v) ?_
          with_reducible rfl
        · intro us v hR hn ho K hK
          obtain ⟨n2, -⟩ := hn
          have n2 : us 2 = _ := n2
          clear ho
          have y0 := (cell_of_block hR.1 m).trans HCE.out; have y3 := cell_of_block hR.2 3; simp [Act9.cells] at y3
          rw [if_pos (by rfl)]
          go_simp
          refine hK _ _ _ (by simp only [Act.put, List.setIfInBounds_toArray, List.set_cons_zero, List.set_cons_succ, Nat.reduceAdd, n2] <;> rfl) ?_ hR ⟨fun h => h, trivial⟩
          refine only_mk (v := v) ?_
          with_reducible rfl
        · intro us v hR hn ho K hK
          clear ho
          have y0 := (cell_of_block hR.1 m).trans HCE.out; have y3 := cell_of_block hR.2 3; simp [Act9.cells] at y3
          rw [if_pos (by rfl)]
          go_simp
          refine hK _ _ _ (by simp only [Act.put, List.setIfInBounds_toArray, List.set_cons_zero, List.set_cons_succ, Nat.reduceAdd] <;> rfl) ?_ hR ⟨fun h => h, trivial⟩
          refine only_mk (v := v) ?_
          with_reducible rfl
        · intro us v hR hn ho K hK
          obtain ⟨n4, -⟩ := hn
          have n4 : us 4 = _ := n4
          clear ho
          have y0 := (cell_of_block hR.1 m).trans HCE.out; have y3 := cell_of_block hR.2 3; simp [Act9.cells] at y3
          rw [if_pos (by rfl)]
          go_simp
          refine hK _ _ _ (by simp only [Act.put, List.setIfInBounds_toArray, List.set_cons_zero, List.set_cons_succ, Nat.reduceAdd, n4] <;> rfl) ?_ hR ⟨fun h => h, trivial⟩
          refine only_mk (v := v) ?_
          with_reducible rfl
        · intro us v hR hn ho K hK
          obtain ⟨n3, n5, ns, -⟩ := hn
          have n3 : us 3 = _ := n3
          have n5 : us 5 = _ := n5
          clear ho
          have y0 := (cell_of_block hR.1 m).trans HCE.out; have y3 := cell_of_block hR.2 3; simp [Act9.cells] at y3
          obtain ⟨l1, l2⟩ := ns
          rw [if_pos (by rfl)]
          clear y0 y3
          go_simp
          refine (send_any (l1.e me) a.S).mono ?_
          rw [HE.out]
          rintro e v' ⟨rfl, F', he, ht⟩
          dsimp only
          have hBv : B ≤ v.heap.size := Nat.le_trans hB l2.size
          have hl := l1.setE hBv he ht
          exact hK _ _ _ (by simp only [Act.put, List.setIfInBounds_toArray, List.set_cons_zero, List.set_cons_succ, Nat.reduceAdd, n3, n5] <;> rfl) ⟨rfl, F', hl, l2.trans (l1.underE hBv ht)⟩ ⟨hl.x 0 rfl, hl.x 1 rfl⟩ trivial
        · intro us v hR hn ho K hK
          obtain ⟨n6, -⟩ := hn
          clear ho
          have y0 := (cell_of_block hR.1 m).trans HCE.out; have y3 := cell_of_block hR.2 3; simp [Act9.cells] at y3
          obtain ⟨e6, r6⟩ := n6
          rw [if_pos (by rfl)]
          go_simp
          refine hK _ _ _ (by simp only [Act.put, List.setIfInBounds_toArray, List.set_cons_zero, List.set_cons_succ, Nat.reduceAdd, e6] <;> rfl) ?_ hR ⟨fun h => h, trivial⟩
          exact only_mk (v := v) rfl
      case hla =>
        intro us v hR hl
        obtain ⟨n0, n1, n2, n3, n4, n5, n6, n7, -⟩ := need_last hl [0, 1, 2, 3, 4, 5, 6, 7] (by kernel_rfl)
        have n0 : us 0 = _ := n0
        have n1 : us 1 = _ := n1
        have n2 : us 2 = _ := n2
        have n3 : us 3 = _ := n3
        have n4 : us 4 = _ := n4
        have n5 : us 5 = _ := n5
        have n7 : us 7 = _ := n7
        have y0 := (cell_of_block hR.1 m).trans HCE.out; have y3 := cell_of_block hR.2 3; simp [Act9.cells] at y3
        simp only [n0, n1, n2, n3, n4, n5, n7]
        clear hl n0 n1 n2 n3 n4 n5 n7
        obtain ⟨e6, F', hl6, hb6⟩ := n6
        simp only [e6]
        have HL6 := Lib.hid hl6
        have HB6 := Lib.hid hb6
        have hr1 := hR.1
        have hr2 := hR.2
        have HR1 := Lib.hid (And.intro hr1 hr2)
        clear e6 hl6 hb6 hR hr1 hr2 hq y0 y3
        cases q
        · have hne : ¬ E = 0 := by have := HQ.out; simpa using this
          have hmid : PlayMid B X t a w v := by
            obtain ⟨M', h'⟩ := mid_e HC.out (show t.play a = { t with e := upB t.e me ((t.e me).sent a.S) } from by rw [HP.out]; unfold T2.send; rw [HE.out, if_neg hne, upB_id]) HL6.out
            exact ⟨M', h', HB6.out⟩
          have HMID := Lib.hid hmid
          clear hmid hne
          go_wp2_with fail
          go_meet
          exact HMID.out
        · have heq : E = 0 := by have := HQ.out; simpa using this
          have HEQ := Lib.hid heq
          have hsl := (HSZ.out.s me)
          obtain ⟨ys, hys⟩ : ∃ ys, t.s me ++ [a.S] = ys := ⟨_, rfl⟩
          have HYS := Lib.hid hys
          have HYL := Lib.hid (show (t.s me).length + 1 = ys.length from by rw [← hys]; simp)
          have HYM := Lib.hid (show (t.s me).map Value.string ++ [.string a.S] = ys.map .string from by rw [← hys]; simp)
          clear heq hys
          go_wp2_with fail
          refine' wp_flow [only 0 _, only 1 _, only 2 _, only 3 _, only 4 (.slice (M.s me).A (t.s me).length (M.s me).c), only 5 _, only 6 (.string a.S), own 7 (fun y v => ∃ g, y = .slice (some ⟨g, 0, none⟩) 1 1 ∧ v.heap[g]? = some (.cells #[.string a.S] 9 (0, 0))), (fun us v => ∃ arr : Arr, us 8 = sl arr ys.length ∧ Lay B { M with F := upB M.F me F', s := upB M.s me arr } { t with e := upB t.e me ((t.e me).sent a.S), s := upB t.s me ys } (boxes3 w.heap.size C a ++ X) v ∧ Below B w v), only 9 _, only 10 _, (fun _ v => ∃ arr : Arr, Lay B { M with F := upB M.F me F', s := upB M.s me arr } { t with e := upB t.e me ((t.e me).sent a.S), s := upB t.s me ys } (boxes3 w.heap.size (C.setIfInBounds (4 + m) (sl arr ys.length)) a ++ X) v ∧ Below B w v), (fun _ v => Lay B { M with F := upB M.F me F' } { t with e := upB t.e me ((t.e me).sent a.S) } (boxes3 w.heap.size C a ++ X) v ∧ Below B w v)] (fun v => v.heap[w.heap.size + 1]? = some (.cells a.cells.toArray 44 (0, 0))) [[], [], [], [1, 2], [3, 12], [], [5], [6], [4, 7, 12], [], [0, 9], [8, 10]] [[], [], [], [], [], [], [], [], [7, 12], [], [], [8]] [[], [], [], [], [], [], [], [], [], [], [], []] [[7, 8, 12], [7, 12], [7, 12], [7, 12], [7, 12], [12], [12], [12], [], [7, 8, 12], [7, 8, 12], []] [7, 8, 11, 12] [0, 0, 0, 6, 14, 0, 32, 96, 254, 0, 513, 2047] _ (fun us => ?hfr) (by kernel_rfl) (by kernel_rfl) (by kernel_rfl) ⟨only_still _, only_still _, only_still _, only_still _, only_still _, only_still _, only_still _, trivial, trivial, only_still _, only_still _, trivial, trivial, trivial⟩ (HR1.out.2) (by simp) (⟨HL6.out.after (below_drewN (Below.refl _ _) 1), below_drewN HB6.out 1⟩) ?hst ?hla
          case hfr => (simp only [List.cons_append, List.nil_append, putAll, Act.put, List.setIfInBounds_toArray, List.set_cons_zero, List.set_cons_succ, Nat.reduceAdd]; rfl)
          case hst =>
            refine ⟨?_, ?_, ?_, ?_, ?_, ?_, ?_, ?_, ?_, ?_, ?_, ?_, trivial⟩
            · intro us v hR hn ho K hK
              clear ho
              have y3 := cell_of_block hR 3; simp [Act9.cells] at y3
              rw [if_pos (by rfl)]
              go_simp
              refine hK _ _ _ (by simp only [Act.put, List.setIfInBounds_toArray, List.set_cons_zero, List.set_cons_succ, Nat.reduceAdd] <;> rfl) ?_ hR ⟨fun h => h, fun h => h, fun h => h, trivial⟩
              refine only_mk (v := v) ?_
              with_reducible rfl
            · intro us v hR hn ho K hK
              clear ho
              have y3 := cell_of_block hR 3; simp [Act9.cells] at y3
              rw [if_pos (by rfl)]
              go_simp
              refine hK _ _ _ (by simp only [Act.put, List.setIfInBounds_toArray, List.set_cons_zero, List.set_cons_succ, Nat.reduceAdd] <;> rfl) ?_ hR ⟨fun h => h, fun h => h, trivial⟩
              refine only_mk (v := v) ?_
              with_reducible rfl
            · intro us v hR hn ho K hK
              clear ho
              have y3 := cell_of_block hR 3; simp [Act9.cells] at y3
              rw [if_pos (by rfl)]
              go_simp
              refine hK _ _ _ (by simp only [Act.put, List.setIfInBounds_toArray, List.set_cons_zero, List.set_cons_succ, Nat.reduceAdd] <;> rfl) ?_ hR ⟨fun h => h, fun h => h, trivial⟩
              refine only_mk (v := v) ?_
              with_reducible rfl
            · intro us v hR hn ho K hK
              obtain ⟨n1, n2, -⟩ := hn
              have n1 : us 1 = _ := n1
              have n2 : us 2 = _ := n2
              clear ho
              have y3 := cell_of_block hR 3; simp [Act9.cells] at y3
              rw [if_pos (by rfl)]
              go_simp
              refine hK _ _ _ (by simp only [Act.put, List.setIfInBounds_toArray, List.set_cons_zero, List.set_cons_succ, Nat.reduceAdd, n1, n2] <;> rfl) ?_ hR ⟨fun h => h, fun h => h, trivial⟩
              refine only_mk (v := v) ?_
              with_reducible rfl
            · intro us v hR hn ho K hK
              obtain ⟨n3, ns, -⟩ := hn
              have n3 : us 3 = _ := n3
              clear ho
              have y3 := cell_of_block hR 3; simp [Act9.cells] at y3
              have y0 := (cell_of_block (show v.heap[w.heap.size]? = some (.cells C 60 (0, 0)) from ns.1.x 0 rfl) (4 + m)).trans HCS.out
              unfold sl at y0
              rw [if_pos (by rfl)]
              go_simp
              refine hK _ _ _ (by simp only [Act.put, List.setIfInBounds_toArray, List.set_cons_zero, List.set_cons_succ, Nat.reduceAdd, n3] <;> rfl) ?_ hR ⟨fun h => h, fun h => h, trivial⟩
              refine only_mk (v := v) ?_
              with_reducible rfl
            · intro us v hR hn ho K hK
              clear ho
              have y3 := cell_of_block hR 3; simp [Act9.cells] at y3
              rw [if_pos (by rfl)]
              go_simp
              refine hK _ _ _ (by simp only [Act.put, List.setIfInBounds_toArray, List.set_cons_zero, List.set_cons_succ, Nat.reduceAdd] <;> rfl) ?_ hR ⟨fun h => h, trivial⟩
              refine only_mk (v := v) ?_
              with_reducible rfl
            · intro us v hR hn ho K hK
              obtain ⟨n5, -⟩ := hn
              have n5 : us 5 = _ := n5
              clear ho
              have y3 := cell_of_block hR 3; simp [Act9.cells] at y3
              rw [if_pos (by rfl)]
              go_simp
              refine hK _ _ _ (by simp only [Act.put, List.setIfInBounds_toArray, List.set_cons_zero, List.set_cons_succ, Nat.reduceAdd, n5] <;> rfl) ?_ hR ⟨fun h => h, trivial⟩
              refine only_mk (v := v) ?_
              with_reducible rfl
            · intro us v hR hn ho K hK
              obtain ⟨n6, -⟩ := hn
              have n6 : us 6 = _ := n6
              clear ho
              have y3 := cell_of_block hR 3; simp [Act9.cells] at y3
              rw [if_pos (by rfl)]
              go_simp
              have hba : Below v.heap.size v (v.alloc (.cells #[.string a.S] 9)) := (Below.refl _ _).alloc (Nat.le_refl _) _
              exact hK _ _ _ (by simp only [Act.put, List.setIfInBounds_toArray, List.set_cons_zero, List.set_cons_succ, Nat.reduceAdd, n6] <;> rfl) ⟨v.heap.size, rfl, heap_alloc_new v _⟩ ((hba.block _ (lt_of_block hR)).trans hR) ⟨fun ⟨h1, h2⟩ => ⟨h1.after hba, h2.trans (hba.mono (Nat.le_trans hB h2.size))⟩, trivial⟩
            · intro us v hR hn ho K hK
              obtain ⟨n4, n7, ns, -⟩ := hn
              have n4 : us 4 = _ := n4
              clear ho
              have y3 := cell_of_block hR 3; simp [Act9.cells] at y3
              obtain ⟨l1, l2⟩ := ns
              obtain ⟨g7, n7, hg7⟩ := n7
              have hBv : B ≤ v.heap.size := Nat.le_trans hB l2.size
              have hvs : Vec v (M.s me).F 1 (M.s me).A (t.s me).length (M.s me).c ((t.s me).map .string) := l1.s me
              refine step_append_vec _ (by rfl) (.tmp 66) (.tmp 69) 23 23 (by rfl) 9 i0 _ 1 16 Try.underlying23 hi0 hz0 hz1 hz2 rfl (M.s me).F (M.s me).A (t.s me).length (M.s me).c ((t.s me).map .string) (.slice (some ⟨g7, 0, none⟩) 1 1) 1 [.string a.S] n4 n7 hvs (src_new v Try.underlying23 [.string a.S] 1 1 1 rfl (by simp [Value.oneCell']) g7 hg7) (by unfold maxLen; omega) (by omega) ?_
              intro v' w5 happ
              rw [HYL.out, HYM.out] at happ
              obtain ⟨F5, A5, c5, rfl, hv5, ht5⟩ := happ.all
              have hl := l1.setS (me := me) hBv (a := ⟨A5, c5, F5⟩) (l := ys) hv5 ht5
              exact hK _ _ _ (by simp only [Act.put, List.setIfInBounds_toArray, List.set_cons_zero, List.set_cons_succ, Nat.reduceAdd, n4, n4, n7] <;> rfl) ⟨⟨A5, c5, F5⟩, rfl, hl, l2.trans (l1.underS (me := me) hBv ht5)⟩ (hl.x 1 rfl) trivial
            · intro us v hR hn ho K hK
              clear ho
              have y3 := cell_of_block hR 3; simp [Act9.cells] at y3
              rw [if_pos (by rfl)]
              go_simp
              refine hK _ _ _ (by simp only [Act.put, List.setIfInBounds_toArray, List.set_cons_zero, List.set_cons_succ, Nat.reduceAdd] <;> rfl) ?_ hR ⟨fun h => h, fun h => h, fun h => h, trivial⟩
              refine only_mk (v := v) ?_
              with_reducible rfl
            · intro us v hR hn ho K hK
              obtain ⟨n0, n9, -⟩ := hn
              have n0 : us 0 = _ := n0
              have n9 : us 9 = _ := n9
              clear ho
              have y3 := cell_of_block hR 3; simp [Act9.cells] at y3
              rw [if_pos (by rfl)]
              go_simp
              refine hK _ _ _ (by simp only [Act.put, List.setIfInBounds_toArray, List.set_cons_zero, List.set_cons_succ, Nat.reduceAdd, n0, n9] <;> rfl) ?_ hR ⟨fun h => h, fun h => h, fun h => h, trivial⟩
              refine only_mk (v := v) ?_
              with_reducible rfl
            · intro us v hR hn ho K hK
              obtain ⟨n8, n10, -⟩ := hn
              have n10 : us 10 = _ := n10
              clear ho
              have y3 := cell_of_block hR 3; simp [Act9.cells] at y3
              obtain ⟨arr, n8, l1, l2⟩ := n8
              have hbx : v.heap[w.heap.size]? = some (.cells C 60 (0, 0)) := l1.x 0 rfl
              have y0 := (cell_of_block hbx (4 + m)).trans HCS.out
              have f0 := frozen_of_block hbx (4 + m)
              have hBv : B ≤ v.heap.size := Nat.le_trans hB l2.size
              obtain ⟨k1, k2⟩ := l1.box hBv 0 rfl (4 + m) (sl arr ys.length)
              rw [if_pos (by rfl)]
              unfold sl at n8 y0
              clear hbx
              go_simp
              exact hK undef _ _ (by simp only [Act.put, List.setIfInBounds_toArray, List.set_cons_zero, List.set_cons_succ, Nat.reduceAdd, n10, n8] <;> rfl) ⟨arr, k1, l2.trans k2⟩ (k1.x 1 rfl) trivial
          case hla =>
            intro us v hR hl
            obtain ⟨n0, n1, n2, n3, n4, n5, n6, n9, n10, n11, -⟩ := need_last hl [0, 1, 2, 3, 4, 5, 6, 9, 10, 11] (by kernel_rfl)
            have n0 : us 0 = _ := n0
            have n1 : us 1 = _ := n1
            have n2 : us 2 = _ := n2
            have n3 : us 3 = _ := n3
            have n4 : us 4 = _ := n4
            have n5 : us 5 = _ := n5
            have n6 : us 6 = _ := n6
            have n9 : us 9 = _ := n9
            have n10 : us 10 = _ := n10
            have y3 := cell_of_block hR 3; simp [Act9.cells] at y3
            simp only [n0, n1, n2, n3, n4, n5, n6, n9, n10]
            clear hl n0 n1 n2 n3 n4 n5 n6 n9 n10
            obtain ⟨arr, hl, hb⟩ := n11
            have hmid : PlayMid B X t a w v := by
              obtain ⟨M', h'⟩ := mid_s HM.out HC.out (show t.play a = { t with e := upB t.e me ((t.e me).sent a.S), s := upB t.s me ys } from by rw [HP.out]; unfold T2.send; rw [HE.out, if_pos HEQ.out, HYS.out]) hl
              exact ⟨M', h', hb⟩
            have HMID := Lib.hid hmid
            clear hmid hl hb hR y3
            go_wp2_with fail
            go_meet
            exact HMID.out
    · have q0 : (a.K == 0) = false := beq_eq_false_iff_ne.2 h0
      by_cases h1 : a.K = 1
      · have HP := Lib.hid (show t.play a = t.out me from by unfold T2.play; rw [if_neg h0, if_pos h1, HME.out])
        have q1 : (a.K == 1) = true := beq_iff_eq.2 h1
        obtain ⟨fs, hfs⟩ : ∃ fs, (t.e me).goes = fs := ⟨_, rfl⟩
        have HFS := Lib.hid hfs
        have hfl : fs.length ≤ 1000 := by rw [← hfs]; exact goes_le ((HL4.out.e me).ok)
        have hsl := (HSZ.out.o me)
        obtain ⟨ys, hys⟩ : ∃ ys, t.o me ++ fs = ys := ⟨_, rfl⟩
        have HYS := Lib.hid hys
        have HYL := Lib.hid (show (t.o me).length + fs.length = ys.length from by rw [← hys]; simp)
        have HYM := Lib.hid (show (t.o me).flatMap Fr.cells ++ fs.flatMap Fr.cells = ys.flatMap Fr.cells from by rw [← hys]; simp)
        have HONE := Lib.hid (show ∀ u ∈ fs.flatMap Fr.cells, u.oneCell' = true from fr_cells_one fs)
        clear h0 h1 hfs hys x0 x1
        go_wp2_with fail
        refine' wp_flow [only 0 _, only 1 _, only 2 _, only 3 _, only 4 (.slice (M.o me).A (t.o me).length (M.o me).c), only 5 _, only 6 _, only 7 _, only 8 (.pointer (some ⟨M.p me, 0, none⟩)), (fun us v => ∃ A5 c5 G5, us 9 = .slice A5 fs.length c5 ∧ Vec v G5 5 A5 fs.length c5 (fs.flatMap Fr.cells)), (fun us v => ∃ arr : Arr, us 10 = sl arr ys.length ∧ ∃ F', Lay B { M with F := upB M.F me F', o := upB M.o me arr } { t with e := upB t.e me (t.e me).gone, o := upB t.o me ys } (boxes3 w.heap.size C a ++ X) v ∧ Below B w v), only 11 _, only 12 _, (fun _ v => ∃ (arr : Arr) (F' : List Nat), Lay B { M with F := upB M.F me F', o := upB M.o me arr } { t with e := upB t.e me (t.e me).gone, o := upB t.o me ys } (boxes3 w.heap.size (C.setIfInBounds (2 + m) (sl arr ys.length)) a ++ X) v ∧ Below B w v), (fun us v => OutS B X M t me C a w (us 9) v)] (fun v => v.heap[w.heap.size + 1]? = some (.cells a.cells.toArray 44 (0, 0))) [[], [], [], [1, 2], [3, 14], [], [], [5, 6], [7, 14], [8, 14], [4, 9, 14], [], [0, 11], [10, 12]] [[], [], [], [], [], [], [], [], [], [], [9, 14], [], [], [10]] [[], [], [], [], [], [], [], [], [], [9], [], [], [], []] [[9, 10, 14], [9, 14], [9, 14], [9, 14], [9, 14], [14], [14], [14], [14], [14], [], [9, 10, 14], [9, 10, 14], []] [9, 10, 13, 14] [0, 0, 0, 6, 14, 0, 0, 96, 224, 480, 1022, 0, 2049, 8191] _ (fun us => ?hfr) (by kernel_rfl) (by kernel_rfl) (by kernel_rfl) ⟨only_still _, only_still _, only_still _, only_still _, only_still _, only_still _, only_still _, only_still _, only_still _, trivial, trivial, only_still _, only_still _, trivial, trivial, trivial⟩ ((HL4.out.x 1 rfl)) (by simp) ((.inl ⟨rfl, HL4.out.after (below_drewN (Below.refl _ _) 1), below_drewN (HB4.out.mono hB) 1⟩)) ?hst ?hla
        case hfr => (simp only [List.cons_append, List.nil_append, putAll, Act.put, List.setIfInBounds_toArray, List.set_cons_zero, List.set_cons_succ, Nat.reduceAdd]; rfl)
        case hst =>
          refine ⟨?_, ?_, ?_, ?_, ?_, ?_, ?_, ?_, ?_, ?_, ?_, ?_, ?_, ?_, trivial⟩
          · intro us v hR hn ho K hK
            clear ho
            skip
            rw [if_pos (by rfl)]
            go_simp
            refine hK _ _ _ (by simp only [Act.put, List.setIfInBounds_toArray, List.set_cons_zero, List.set_cons_succ, Nat.reduceAdd] <;> rfl) ?_ hR ⟨fun h => h, fun h => h, fun h => h, trivial⟩
            refine only_mk (v := v) ?_
            with_reducible rfl
          · intro us v hR hn ho K hK
            clear ho
            skip
            rw [if_pos (by rfl)]
            go_simp
            refine hK _ _ _ (by simp only [Act.put, List.setIfInBounds_toArray, List.set_cons_zero, List.set_cons_succ, Nat.reduceAdd] <;> rfl) ?_ hR ⟨fun h => h, fun h => h, trivial⟩
            refine only_mk (v := v) ?_
            with_reducible rfl
          · intro us v hR hn ho K hK
            clear ho
            skip
            rw [if_pos (by rfl)]
            go_simp
            refine hK _ _ _ (by simp only [Act.put, List.setIfInBounds_toArray, List.set_cons_zero, List.set_cons_succ, Nat.reduceAdd] <;> rfl) ?_ hR ⟨fun h => h, fun h => h, trivial⟩
            refine only_mk (v := v) ?_
            with_reducible rfl
          · intro us v hR hn ho K hK
            obtain ⟨n1, n2, -⟩ := hn
            have n1 : us 1 = _ := n1
            have n2 : us 2 = _ := n2
            clear ho
            skip
            rw [if_pos (by rfl)]
            go_simp
            refine hK _ _ _ (by simp only [Act.put, List.setIfInBounds_toArray, List.set_cons_zero, List.set_cons_succ, Nat.reduceAdd, n1, n2] <;> rfl) ?_ hR ⟨fun h => h, fun h => h, trivial⟩
            refine only_mk (v := v) ?_
            with_reducible rfl
          · intro us v hR hn ho K hK
            obtain ⟨n3, ns, -⟩ := hn
            have n3 : us 3 = _ := n3
            clear ho
            skip
            have y0 := (cell_of_block (OutS.box ns) (2 + m)).trans HCO.out
            unfold sl at y0
            rw [if_pos (by rfl)]
            go_simp
            refine hK _ _ _ (by simp only [Act.put, List.setIfInBounds_toArray, List.set_cons_zero, List.set_cons_succ, Nat.reduceAdd, n3] <;> rfl) ?_ hR ⟨fun h => h, fun h => h, trivial⟩
            refine only_mk (v := v) ?_
            with_reducible rfl
          · intro us v hR hn ho K hK
            clear ho
            skip
            rw [if_pos (by rfl)]
            go_simp
            refine hK _ _ _ (by simp only [Act.put, List.setIfInBounds_toArray, List.set_cons_zero, List.set_cons_succ, Nat.reduceAdd] <;> rfl) ?_ hR ⟨fun h => h, trivial⟩
            refine only_mk (v := v) ?_
            with_reducible rfl
          · intro us v hR hn ho K hK
            clear ho
            skip
            rw [if_pos (by rfl)]
            go_simp
            refine hK _ _ _ (by simp only [Act.put, List.setIfInBounds_toArray, List.set_cons_zero, List.set_cons_succ, Nat.reduceAdd] <;> rfl) ?_ hR ⟨fun h => h, trivial⟩
            refine only_mk (v := v) ?_
            with_reducible rfl
          · intro us v hR hn ho K hK
            obtain ⟨n5, n6, -⟩ := hn
            have n5 : us 5 = _ := n5
            have n6 : us 6 = _ := n6
            clear ho
            skip
            rw [if_pos (by rfl)]
            go_simp
            refine hK _ _ _ (by simp only [Act.put, List.setIfInBounds_toArray, List.set_cons_zero, List.set_cons_succ, Nat.reduceAdd, n5, n6] <;> rfl) ?_ hR ⟨fun h => h, trivial⟩
            refine only_mk (v := v) ?_
            with_reducible rfl
          · intro us v hR hn ho K hK
            obtain ⟨n7, ns, -⟩ := hn
            have n7 : us 7 = _ := n7
            clear ho
            skip
            have y0 := (cell_of_block (OutS.box ns) m).trans HCE.out
            rw [if_pos (by rfl)]
            go_simp
            refine hK _ _ _ (by simp only [Act.put, List.setIfInBounds_toArray, List.set_cons_zero, List.set_cons_succ, Nat.reduceAdd, n7] <;> rfl) ?_ hR ⟨fun h => h, trivial⟩
            refine only_mk (v := v) ?_
            with_reducible rfl
          · intro us v hR hn ho K hK
            obtain ⟨n8, ns, -⟩ := hn
            have n8 : us 8 = _ := n8
            obtain ⟨o9, -⟩ := ho
            have n9 : us 9 = undef := o9
            clear o9
            skip
            obtain ⟨l1, l2⟩ := OutS.first n9 ns
            have hBv : B ≤ v.heap.size := Nat.le_trans hB l2.size
            rw [if_pos (by rfl)]
            go_simp
            refine (out_any (l1.e me)).mono ?_
            rw [HFS.out]
            rintro e v' ⟨A5, c5, G5, rfl, hv5, hG5, he, ht⟩
            dsimp only
            have hl := l1.setE (me := me) hBv he ht
            exact hK _ _ _ (by simp only [Act.put, List.setIfInBounds_toArray, List.set_cons_zero, List.set_cons_succ, Nat.reduceAdd, n9, n8] <;> rfl) ⟨A5, c5, G5, rfl, hv5⟩ (hl.x 1 rfl) ⟨fun _ => .inr ⟨(fun h => by cases h), _, hl, l2.trans (l1.underE (me := me) hBv ht)⟩, trivial⟩
          · intro us v hR hn ho K hK
            obtain ⟨n4, n9, ns, -⟩ := hn
            have n4 : us 4 = _ := n4
            clear ho
            skip
            obtain ⟨A5, c5, G5, n9, hv5⟩ := n9
            obtain ⟨F', l1, l2⟩ := OutS.second (by rw [n9]; exact (fun h => by cases h)) ns
            have hBv : B ≤ v.heap.size := Nat.le_trans hB l2.size
            have hvs : Vec v (M.o me).F 5 (M.o me).A (t.o me).length (M.o me).c ((t.o me).flatMap Fr.cells) := l1.o me
            refine step_append_vec _ (by rfl) (.tmp 79) (.tmp 84) 32 32 (by rfl) 42 i1 _ 5 48 Try.underlying32 hi1 hy0 hy1 hy2 rfl (M.o me).F (M.o me).A (t.o me).length (M.o me).c ((t.o me).flatMap Fr.cells) (.slice A5 fs.length c5) fs.length (fs.flatMap Fr.cells) n4 n9 hvs (hv5.src Try.underlying32 HONE.out) (by unfold maxLen; omega) (by omega) ?_
            intro v' w5 happ
            rw [HYL.out, HYM.out] at happ
            obtain ⟨F6, A6, c6, rfl, hv6, ht6⟩ := happ.all
            have hl := l1.setO (me := me) hBv (a := ⟨A6, c6, F6⟩) (l := ys) hv6 ht6
            exact hK _ _ _ (by simp only [Act.put, List.setIfInBounds_toArray, List.set_cons_zero, List.set_cons_succ, Nat.reduceAdd, n4, n4, n9] <;> rfl) ⟨⟨A6, c6, F6⟩, rfl, F', hl, l2.trans (l1.underO (me := me) hBv ht6)⟩ (hl.x 1 rfl) trivial
          · intro us v hR hn ho K hK
            clear ho
            skip
            rw [if_pos (by rfl)]
            go_simp
            refine hK _ _ _ (by simp only [Act.put, List.setIfInBounds_toArray, List.set_cons_zero, List.set_cons_succ, Nat.reduceAdd] <;> rfl) ?_ hR ⟨fun h => h, fun h => h, fun h => h, trivial⟩
            refine only_mk (v := v) ?_
            with_reducible rfl
          · intro us v hR hn ho K hK
            obtain ⟨n0, n11, -⟩ := hn
            have n0 : us 0 = _ := n0
            have n11 : us 11 = _ := n11
            clear ho
            skip
            rw [if_pos (by rfl)]
            go_simp
            refine hK _ _ _ (by simp only [Act.put, List.setIfInBounds_toArray, List.set_cons_zero, List.set_cons_succ, Nat.reduceAdd, n0, n11] <;> rfl) ?_ hR ⟨fun h => h, fun h => h, fun h => h, trivial⟩
            refine only_mk (v := v) ?_
            with_reducible rfl
          · intro us v hR hn ho K hK
            obtain ⟨n10, n12, -⟩ := hn
            have n12 : us 12 = _ := n12
            clear ho
            skip
            obtain ⟨arr, n10, F', l1, l2⟩ := n10
            have hbx : v.heap[w.heap.size]? = some (.cells C 60 (0, 0)) := l1.x 0 rfl
            have y0 := (cell_of_block hbx (2 + m)).trans HCO.out
            have f0 := frozen_of_block hbx (2 + m)
            have hBv : B ≤ v.heap.size := Nat.le_trans hB l2.size
            obtain ⟨k1, k2⟩ := l1.box hBv 0 rfl (2 + m) (sl arr ys.length)
            rw [if_pos (by rfl)]
            unfold sl at n10 y0
            clear hbx
            go_simp
            exact hK undef _ _ (by simp only [Act.put, List.setIfInBounds_toArray, List.set_cons_zero, List.set_cons_succ, Nat.reduceAdd, n12, n10] <;> rfl) ⟨arr, F', k1, l2.trans k2⟩ (k1.x 1 rfl) trivial
        case hla =>
          intro us v hR hl
          obtain ⟨n0, n1, n2, n3, n4, n5, n6, n7, n8, n11, n12, n13, -⟩ := need_last hl [0, 1, 2, 3, 4, 5, 6, 7, 8, 11, 12, 13] (by kernel_rfl)
          have n0 : us 0 = _ := n0
          have n1 : us 1 = _ := n1
          have n2 : us 2 = _ := n2
          have n3 : us 3 = _ := n3
          have n4 : us 4 = _ := n4
          have n5 : us 5 = _ := n5
          have n6 : us 6 = _ := n6
          have n7 : us 7 = _ := n7
          have n8 : us 8 = _ := n8
          have n11 : us 11 = _ := n11
          have n12 : us 12 = _ := n12
          skip
          simp only [n0, n1, n2, n3, n4, n5, n6, n7, n8, n11, n12]
          clear hl n0 n1 n2 n3 n4 n5 n6 n7 n8 n11 n12
          obtain ⟨arr, F', hl, hb⟩ := n13
          have hmid : PlayMid B X t a w v := by
            obtain ⟨M', h'⟩ := mid_o HM.out HC.out (show t.play a = { t with e := upB t.e me (t.e me).gone, o := upB t.o me ys } from by rw [HP.out]; unfold T2.out; rw [HFS.out, HYS.out]) hl
            exact ⟨M', h', hb⟩
          have HMID := Lib.hid hmid
          clear hmid hl hb hR
          go_wp2_with fail
          go_meet
          exact HMID.out
      · have q1 : (a.K == 1) = false := beq_eq_false_iff_ne.2 h1
        by_cases h2 : a.K = 2
        · have HP := Lib.hid (show t.play a = t.tick me from by unfold T2.play; rw [if_neg h0, if_neg h1, if_pos h2, HME.out])
          have q2 : (a.K == 2) = true := beq_iff_eq.2 h2
          have y0 := (cell_of_block (show w4.heap[w.heap.size]? = some (.cells C 60 (0, 0)) from HL4.out.x 0 rfl) m).trans HCE.out
          clear h0 h1 h2 x0 x1
          go_wp2_with fail
          refine (tick_any (HL4.out.e me)).mono ?_
          rintro e w6 ⟨rfl, he, ht⟩
          have hB4 : B ≤ w4.heap.size := Nat.le_trans hB HB4.out.size
          have hl6 := HL4.out.setE (me := me) hB4 he ht
          have hmid : PlayMid B X t a w w6 := by
            obtain ⟨M', h'⟩ := mid_e HC.out (show t.play a = { t with e := upB t.e me (t.e me).ticked } from HP.out) hl6
            exact ⟨M', h', (HB4.out.mono hB).trans (HL4.out.underE (me := me) hB4 ht)⟩
          have HMID := Lib.hid hmid
          clear hmid hl6 he ht y0
          go_wp2_with fail
          go_meet
          exact HMID.out
        · have q2 : (a.K == 2) = false := beq_eq_false_iff_ne.2 h2
          have hpl := play_else t a me HME.out h0 h1 h2
          have HPL := Lib.hid hpl
          have hbx : w4.heap[w.heap.size]? = some (.cells C 60 (0, 0)) := HL4.out.x 0 rfl
          have y2 := (cell_of_block hbx (2 + (1 - m))).trans HC2.out
          unfold sl at y2
          have hsl := HSZ.out.o (!me)
          have HV := Lib.hid (HL4.out.o (!me))
          have HN0 := Lib.hid (show t.play a = t → PlayMid B X t a w w4 from fun e => ⟨M, by rw [e, HC.out]; exact HL4.out, HB4.out.mono hB⟩)
          obtain ⟨n, hn⟩ : ∃ n, (t.o (!me)).length = n := ⟨_, rfl⟩
          rw [hn] at y2 hsl
          have HLN := Lib.hid hn
          clear h0 h1 h2 hpl hbx x0 hn
          by_cases n0 : a.N < 0
          · have d0 : decide (0 ≤ a.N) = false := by simp; omega
            have HMID := Lib.hid (HN0.out (by rw [HPL.out, dif_neg (by omega)]))
            clear n0
            go_wp2_with fail
            go_meet
            exact HMID.out
          · have d0 : decide (0 ≤ a.N) = true := by simp; omega
            by_cases n1 : (n : Int) ≤ a.N
            · have d1 : decide (a.N < (n : Int)) = false := by simp; omega
              have HMID := Lib.hid (HN0.out (by rw [HPL.out, dif_neg (by rw [HLN.out]; omega)]))
              clear n0 n1
              go_wp2_with fail
              go_meet
              exact HMID.out
            · have d1 : decide (a.N < (n : Int)) = true := by simp; omega
              obtain ⟨k, hk⟩ : ∃ k : Nat, a.N = (k : Int) := ⟨a.N.toNat, by omega⟩
              have hkl : k < (t.o (!me)).length := by rw [HLN.out]; omega
              have hpk : t.play a = t.take me (t.o (!me))[k] := by
                rw [HPL.out, dif_pos (by rw [HLN.out]; omega)]
                congr 1
                simp [hk]
              obtain ⟨f, hf⟩ : ∃ f, (t.o (!me))[k] = f := ⟨_, rfl⟩
              rw [hf] at hpk
              have HP := Lib.hid hpk
              have HF := Lib.hid (show (t.o (!me))[k]? = some f from by rw [List.getElem?_eq_getElem hkl, hf])
              have hvf := vec_frame HV.out
              rcases hvf with e0 | ⟨g, o, hA, _, _, _⟩
              · have := HF.out; rw [e0] at this; cases this
              have HA := Lib.hid hA
              have hkn : k < n := by rw [← HLN.out]; exact hkl
              have k0 : (0 : Int) ≤ (k : Int) := by omega
              have k1 : (k : Int) < (n : Int) := by omega
              rw [hA] at y2
              rw [hk] at x1 d0 d1
              have HK := Lib.hid hk
              clear n0 n1 hk hpk hf hA hkl
              obtain ⟨td, htd⟩ : ∃ td, (t.e me).told f = td := ⟨_, rfl⟩
              obtain ⟨nx, hnx⟩ : ∃ nx, (t.e me).isNext f = nx := ⟨_, rfl⟩
              have HTD := Lib.hid htd
              have HNX := Lib.hid hnx
              clear htd hnx
              go_wp2_with fail
              refine' wp_flow [only 0 _, only 1 _, only 2 _, only 3 (.pointer (some ⟨M.p me, 0, none⟩)), only 4 (.slice (some ⟨g, o, none⟩) n (M.o (!me)).c), only 5 _, only 6 (.int .i64 (k : Int)), only 7 (.pointer (some ⟨g, o + k * 5, none⟩)), only 8 (.agg #[.int .i64 f.kind, .int .i64 f.epoch, .int .u64 f.seq, .int .u64 f.ack, .string f.body]), (fun us v => us 9 = .tuple #[.string td, .bool nx] ∧ ∃ F', Lay B { M with F := upB M.F me F' } { t with e := upB t.e me ((t.e me).taken f) } (boxes3 w.heap.size C a ++ X) v ∧ Below B w v), only 10 (.tuple #[.string td, .bool nx]), only 11 (.string td), only 12 (.bool nx), only 13 (.string td), only 14 (.bool nx), (fun _ v => Lay B M t (boxes3 w.heap.size C a ++ X) v ∧ Below B w v)] (fun v => v.heap[w.heap.size]? = some (.cells C 60 (0, 0)) ∧ v.heap[w.heap.size + 1]? = some (.cells a.cells.toArray 44 (0, 0))) [[], [], [0, 1], [2], [], [], [5], [4, 6], [7, 15], [3, 8, 15], [9], [10], [10], [11], [12]] [[], [], [], [], [], [], [], [], [], [15], [], [], [], [], []] [[], [], [], [], [], [], [], [], [], [], [], [], [], [], []] [[15], [15], [15], [15], [15], [15], [15], [15], [15], [], [9], [9], [9], [9], [9]] [9, 15] [0, 0, 3, 7, 0, 0, 32, 112, 240, 511, 1023, 2047, 2047, 4095, 6143] _ (fun us => ?hfr) (by kernel_rfl) (by kernel_rfl) (by kernel_rfl) ⟨only_still _, only_still _, only_still _, only_still _, only_still _, only_still _, only_still _, only_still _, only_still _, trivial, only_still _, only_still _, only_still _, only_still _, only_still _, trivial, trivial⟩ (⟨HL4.out.x 0 rfl, HL4.out.x 1 rfl⟩) (by simp) (⟨HL4.out.after (below_drewN (Below.refl _ _) 1), below_drewN (HB4.out.mono hB) 1⟩) ?hst ?hla
              case hfr => (simp only [List.cons_append, List.nil_append, putAll, Act.put, List.setIfInBounds_toArray, List.set_cons_zero, List.set_cons_succ, Nat.reduceAdd]; rfl)
              case hst =>
                refine ⟨?_, ?_, ?_, ?_, ?_, ?_, ?_, ?_, ?_, ?_, ?_, ?_, ?_, ?_, ?_, trivial⟩
                · intro us v hR hn ho K hK
                  clear ho
                  have y0 := (cell_of_block hR.1 m).trans HCE.out; have y1 := cell_of_block hR.2 1; simp [Act9.cells] at y1; rw [HK.out] at y1
                  rw [if_pos (by rfl)]
                  go_simp
                  refine hK _ _ _ (by simp only [Act.put, List.setIfInBounds_toArray, List.set_cons_zero, List.set_cons_succ, Nat.reduceAdd] <;> rfl) ?_ hR ⟨fun h => h, trivial⟩
                  refine only_mk (v := v) ?_
                  with_reducible rfl
                · intro us v hR hn ho K hK
                  clear ho
                  have y0 := (cell_of_block hR.1 m).trans HCE.out; have y1 := cell_of_block hR.2 1; simp [Act9.cells] at y1; rw [HK.out] at y1
                  rw [if_pos (by rfl)]
                  go_simp
                  refine hK _ _ _ (by simp only [Act.put, List.setIfInBounds_toArray, List.set_cons_zero, List.set_cons_succ, Nat.reduceAdd] <;> rfl) ?_ hR ⟨fun h => h, trivial⟩
                  refine only_mk (v := v) ?_
                  with_reducible rfl
                · intro us v hR hn ho K hK
                  obtain ⟨n0, n1, -⟩ := hn
                  have n0 : us 0 = _ := n0
                  have n1 : us 1 = _ := n1
                  clear ho
                  have y0 := (cell_of_block hR.1 m).trans HCE.out; have y1 := cell_of_block hR.2 1; simp [Act9.cells] at y1; rw [HK.out] at y1
                  rw [if_pos (by rfl)]
                  go_simp
                  refine hK _ _ _ (by simp only [Act.put, List.setIfInBounds_toArray, List.set_cons_zero, List.set_cons_succ, Nat.reduceAdd, n0, n1] <;> rfl) ?_ hR ⟨fun h => h, trivial⟩
                  refine only_mk (v := v) ?_
                  with_reducible rfl
                · intro us v hR hn ho K hK
                  obtain ⟨n2, -⟩ := hn
                  have n2 : us 2 = _ := n2
                  clear ho
                  have y0 := (cell_of_block hR.1 m).trans HCE.out; have y1 := cell_of_block hR.2 1; simp [Act9.cells] at y1; rw [HK.out] at y1
                  rw [if_pos (by rfl)]
                  go_simp
                  refine hK _ _ _ (by simp only [Act.put, List.setIfInBounds_toArray, List.set_cons_zero, List.set_cons_succ, Nat.reduceAdd, n2] <;> rfl) ?_ hR ⟨fun h => h, trivial⟩
                  refine only_mk (v := v) ?_
                  with_reducible rfl
                · intro us v hR hn ho K hK
                  clear ho
                  have y0 := (cell_of_block hR.1 m).trans HCE.out; have y1 := cell_of_block hR.2 1; simp [Act9.cells] at y1; rw [HK.out] at y1
                  rw [if_pos (by rfl)]
                  go_simp
                  refine hK _ _ _ (by simp only [Act.put, List.setIfInBounds_toArray, List.set_cons_zero, List.set_cons_succ, Nat.reduceAdd] <;> rfl) ?_ hR ⟨fun h => h, trivial⟩
                  refine only_mk (v := v) ?_
                  with_reducible rfl
                · intro us v hR hn ho K hK
                  clear ho
                  have y0 := (cell_of_block hR.1 m).trans HCE.out; have y1 := cell_of_block hR.2 1; simp [Act9.cells] at y1; rw [HK.out] at y1
                  rw [if_pos (by rfl)]
                  go_simp
                  refine hK _ _ _ (by simp only [Act.put, List.setIfInBounds_toArray, List.set_cons_zero, List.set_cons_succ, Nat.reduceAdd] <;> rfl) ?_ hR ⟨fun h => h, trivial⟩
                  refine only_mk (v := v) ?_
                  with_reducible rfl
                · intro us v hR hn ho K hK
                  obtain ⟨n5, -⟩ := hn
                  have n5 : us 5 = _ := n5
                  clear ho
                  have y0 := (cell_of_block hR.1 m).trans HCE.out; have y1 := cell_of_block hR.2 1; simp [Act9.cells] at y1; rw [HK.out] at y1
                  rw [if_pos (by rfl)]
                  go_simp
                  refine hK _ _ _ (by simp only [Act.put, List.setIfInBounds_toArray, List.set_cons_zero, List.set_cons_succ, Nat.reduceAdd, n5] <;> rfl) ?_ hR ⟨fun h => h, trivial⟩
                  refine only_mk (v := v) ?_
                  with_reducible rfl
                · intro us v hR hn ho K hK
                  obtain ⟨n4, n6, -⟩ := hn
                  have n4 : us 4 = _ := n4
                  have n6 : us 6 = _ := n6
                  clear ho
                  have y0 := (cell_of_block hR.1 m).trans HCE.out; have y1 := cell_of_block hR.2 1; simp [Act9.cells] at y1; rw [HK.out] at y1
                  rw [if_pos (by rfl)]
                  go_simp
                  refine hK _ _ _ (by simp only [Act.put, List.setIfInBounds_toArray, List.set_cons_zero, List.set_cons_succ, Nat.reduceAdd, n4, n6] <;> rfl) ?_ hR ⟨fun h => h, trivial⟩
                  refine only_mk (v := v) ?_
                  with_reducible rfl
                · intro us v hR hn ho K hK
                  obtain ⟨n7, ns, -⟩ := hn
                  have n7 : us 7 = _ := n7
                  clear ho
                  have y0 := (cell_of_block hR.1 m).trans HCE.out; have y1 := cell_of_block hR.2 1; simp [Act9.cells] at y1; rw [HK.out] at y1
                  have hfr := frame_in (ns.1.o (!me)) HA.out HF.out
                  obtain ⟨z0, z1, z2, z3, z4⟩ := hfr
                  rw [if_pos (by rfl)]
                  go_simp
                  refine hK _ _ _ (by simp only [Act.put, List.setIfInBounds_toArray, List.set_cons_zero, List.set_cons_succ, Nat.reduceAdd, n7] <;> rfl) ?_ hR ⟨fun h => h, trivial⟩
                  refine only_mk (v := v) ?_
                  with_reducible rfl
                · intro us v hR hn ho K hK
                  obtain ⟨n3, n8, ns, -⟩ := hn
                  have n3 : us 3 = _ := n3
                  have n8 : us 8 = _ := n8
                  clear ho
                  have y0 := (cell_of_block hR.1 m).trans HCE.out; have y1 := cell_of_block hR.2 1; simp [Act9.cells] at y1; rw [HK.out] at y1
                  obtain ⟨l1, l2⟩ := ns
                  have hBv : B ≤ v.heap.size := Nat.le_trans hB l2.size
                  rw [if_pos (by rfl)]
                  clear y0 y1
                  go_simp
                  refine (take_any (l1.e me) f).mono ?_
                  rw [HTD.out, HNX.out]
                  rintro e v' ⟨rfl, he, ht⟩
                  dsimp only
                  have hl := l1.setE (me := me) hBv he ht
                  exact hK _ _ _ (by simp only [Act.put, List.setIfInBounds_toArray, List.set_cons_zero, List.set_cons_succ, Nat.reduceAdd, n3, n8] <;> rfl) ⟨rfl, _, hl, l2.trans (l1.underE (me := me) hBv ht)⟩ ⟨hl.x 0 rfl, hl.x 1 rfl⟩ trivial
                · intro us v hR hn ho K hK
                  obtain ⟨n9, -⟩ := hn
                  clear ho
                  have y0 := (cell_of_block hR.1 m).trans HCE.out; have y1 := cell_of_block hR.2 1; simp [Act9.cells] at y1; rw [HK.out] at y1
                  obtain ⟨e9, r9⟩ := n9
                  rw [if_pos (by rfl)]
                  go_simp
                  refine hK _ _ _ (by simp only [Act.put, List.setIfInBounds_toArray, List.set_cons_zero, List.set_cons_succ, Nat.reduceAdd, e9] <;> rfl) ?_ hR ⟨fun h => h, trivial⟩
                  exact only_mk (v := v) rfl
                · intro us v hR hn ho K hK
                  obtain ⟨n10, -⟩ := hn
                  have n10 : us 10 = _ := n10
                  clear ho
                  have y0 := (cell_of_block hR.1 m).trans HCE.out; have y1 := cell_of_block hR.2 1; simp [Act9.cells] at y1; rw [HK.out] at y1
                  rw [if_pos (by rfl)]
                  go_simp
                  refine hK _ _ _ (by simp only [Act.put, List.setIfInBounds_toArray, List.set_cons_zero, List.set_cons_succ, Nat.reduceAdd, n10] <;> rfl) ?_ hR ⟨fun h => h, trivial⟩
                  refine only_mk (v := v) ?_
                  with_reducible rfl
                · intro us v hR hn ho K hK
                  obtain ⟨n10, -⟩ := hn
                  have n10 : us 10 = _ := n10
                  clear ho
                  have y0 := (cell_of_block hR.1 m).trans HCE.out; have y1 := cell_of_block hR.2 1; simp [Act9.cells] at y1; rw [HK.out] at y1
                  rw [if_pos (by rfl)]
                  go_simp
                  refine hK _ _ _ (by simp only [Act.put, List.setIfInBounds_toArray, List.set_cons_zero, List.set_cons_succ, Nat.reduceAdd, n10] <;> rfl) ?_ hR ⟨fun h => h, trivial⟩
                  refine only_mk (v := v) ?_
                  with_reducible rfl
                · intro us v hR hn ho K hK
                  obtain ⟨n11, -⟩ := hn
                  have n11 : us 11 = _ := n11
                  clear ho
                  have y0 := (cell_of_block hR.1 m).trans HCE.out; have y1 := cell_of_block hR.2 1; simp [Act9.cells] at y1; rw [HK.out] at y1
                  rw [if_pos (by rfl)]
                  go_simp
                  refine hK _ _ _ (by simp only [Act.put, List.setIfInBounds_toArray, List.set_cons_zero, List.set_cons_succ, Nat.reduceAdd, n11] <;> rfl) ?_ hR ⟨fun h => h, trivial⟩
                  refine only_mk (v := v) ?_
                  with_reducible rfl
                · intro us v hR hn ho K hK
                  obtain ⟨n12, -⟩ := hn
                  have n12 : us 12 = _ := n12
                  clear ho
                  have y0 := (cell_of_block hR.1 m).trans HCE.out; have y1 := cell_of_block hR.2 1; simp [Act9.cells] at y1; rw [HK.out] at y1
                  rw [if_pos (by rfl)]
                  go_simp
                  refine hK _ _ _ (by simp only [Act.put, List.setIfInBounds_toArray, List.set_cons_zero, List.set_cons_succ, Nat.reduceAdd, n12] <;> rfl) ?_ hR ⟨fun h => h, trivial⟩
                  refine only_mk (v := v) ?_
                  with_reducible rfl
              case hla =>
                intro us v hR hl
                obtain ⟨n0, n1, n2, n3, n4, n5, n6, n7, n8, n9, n10, n11, n12, n13, n14, -⟩ := need_last hl [0, 1, 2, 3, 4, 5, 6, 7, 8, 9, 10, 11, 12, 13, 14] (by kernel_rfl)
                have n0 : us 0 = _ := n0
                have n1 : us 1 = _ := n1
                have n2 : us 2 = _ := n2
                have n3 : us 3 = _ := n3
                have n4 : us 4 = _ := n4
                have n5 : us 5 = _ := n5
                have n6 : us 6 = _ := n6
                have n7 : us 7 = _ := n7
                have n8 : us 8 = _ := n8
                have n10 : us 10 = _ := n10
                have n11 : us 11 = _ := n11
                have n12 : us 12 = _ := n12
                have n13 : us 13 = _ := n13
                have n14 : us 14 = _ := n14
                have y0 := (cell_of_block hR.1 m).trans HCE.out; have y1 := cell_of_block hR.2 1; simp [Act9.cells] at y1; rw [HK.out] at y1
                simp only [n0, n1, n2, n3, n4, n5, n6, n7, n8, n10, n11, n12, n13, n14]
                clear hl n0 n1 n2 n3 n4 n5 n6 n7 n8 n10 n11 n12 n13 n14
                obtain ⟨e9, F', hl9, hb9⟩ := n9
                simp only [e9]
                have HL9 := Lib.hid hl9
                have HB9 := Lib.hid hb9
                clear e9 hl9 hb9 hR y0 y1 y2 x1
                cases nx
                · have hmid : PlayMid B X t a w v := by
                    obtain ⟨M', h'⟩ := mid_e HC.out (show t.play a = { t with e := upB t.e me ((t.e me).taken f) } from by rw [HP.out]; unfold T2.take; rw [HNX.out]; simp [upB_id]) HL9.out
                    exact ⟨M', h', HB9.out⟩
                  have HMID := Lib.hid hmid
                  clear hmid
                  go_wp2_with fail
                  go_meet
                  exact HMID.out
                · have hgl := HSZ.out.g me
                  obtain ⟨ys, hys⟩ : ∃ ys, t.g me ++ [td] = ys := ⟨_, rfl⟩
                  have HYS := Lib.hid hys
                  have HYL := Lib.hid (show (t.g me).length + 1 = ys.length from by rw [← hys]; simp)
                  have HYM := Lib.hid (show (t.g me).map Value.string ++ [.string td] = ys.map .string from by rw [← hys]; simp)
                  have hbx : v.heap[w.heap.size]? = some (.cells C 60 (0, 0)) := HL9.out.x 0 rfl
                  have y0 := (cell_of_block hbx (6 + m)).trans HCG.out
                  unfold sl at y0
                  have hBv : B ≤ v.heap.size := Nat.le_trans hB HB9.out.size
                  have hva : Below v.heap.size v (v.alloc (.cells #[.string td] 9)) := (Below.refl _ _).alloc (Nat.le_refl _) _
                  have HLA := Lib.hid (HL9.out.after hva)
                  have HBA := Lib.hid (HB9.out.trans (hva.mono hBv))
                  have HVA := Lib.hid (show Vec (v.alloc (.cells #[.string td] 9)) (M.g me).F 1 (M.g me).A (t.g me).length (M.g me).c ((t.g me).map .string) from (HL9.out.after hva).g me)
                  clear hys hbx hva
                  go_wp2_with (at_builtin; (refine wpList_append_vec _ (by rfl) _ _ _ _ (by rfl) 9 i0 _ 1 16 Try.underlying23 hi0 hz0 hz1 hz2 rfl (M.g me).F (M.g me).A (t.g me).length (M.g me).c ((t.g me).map .string) (.slice (some ⟨v.heap.size, 0, none⟩) 1 1) 1 [.string td] (by rfl) (by rfl) (by exact HVA.out) (by exact src_new _ Try.underlying23 [.string td] 1 1 1 rfl (by simp [Value.oneCell']) _ (heap_alloc_new v _)) (by unfold maxLen; omega) (by omega) ?_; intro v6 w6 happ; rw [HYL.out, HYM.out] at happ; obtain ⟨F6, A6, c6, rfl, hv6, ht6⟩ := happ.all; have hl6 := HLA.out.setG (me := me) (Nat.le_trans hB HBA.out.size) (a := ⟨A6, c6, F6⟩) (l := ys) hv6 ht6; have hb6 := HBA.out.trans (HLA.out.underG (me := me) (Nat.le_trans hB HBA.out.size) ht6); have hbx6 : w6.heap[w.heap.size]? = some (.cells C 60 (0, 0)) := hl6.x 0 rfl; have y6 := (cell_of_block hbx6 (6 + m)).trans HCG.out; have f6 := frozen_of_block hbx6 (6 + m); unfold sl at y6; have HL6 := Lib.hid hl6; have HB6 := Lib.hid hb6; clear happ hl6 hb6 hv6 ht6 hbx6 y0))
                  obtain ⟨k1', k2'⟩ := HL6.out.box (Nat.le_trans hB HB6.out.size) 0 rfl (6 + m) (sl ⟨A6, c6, F6⟩ ys.length)
                  obtain ⟨M', h'⟩ := mid_g HM.out HC.out (show t.play a = { t with e := upB t.e me ((t.e me).taken f), g := upB t.g me ys } from by rw [HP.out]; unfold T2.take; rw [HNX.out, HTD.out, if_pos rfl, HYS.out]) k1'
                  go_meet
                  exact ⟨M', h', HB6.out.trans k2'⟩
  case rest =>
    obtain ⟨M', hl, hbw⟩ := hcut
    have hbx : wc.heap[w.heap.size]? = some (.cells (M'.cells (t.play a)) 60 (0, 0)) := hl.x 0 rfl
    have hrs : wc.heap[w.heap.size + 2]? = some (.cells zero8 60 (0, 0)) := hl.x 2 rfl
    have HL := Lib.hid hl
    have HBW := Lib.hid hbw
    clear x0 x1 hl hbw
    go_wp2_with (first | (refine wpList_load_row rfl 60 _ rfl w.heap.size rfl 60 _ (0, 0) _ hbx Try.underlying60 rfl (by kernel_rfl) ?_) | (refine wpList_store_all rfl 60 (.tmp 4) (.tmp 95) rfl (w.heap.size + 2) zero8 (M'.cells (t.play a)) 60 rfl rfl hrs rfl (by kernel_rfl) (cells_one M' (t.play a)) ?_; intro w9 hq9 hk9))
    refine ret_row1 Try.results24 (w.heap.size + 2) _ _ _ rfl hq9 Try.underlying60 rfl (by kernel_rfl) rfl ?_
    have ht : Turns [w.heap.size + 2] [w.heap.size + 2] wc w9 := ⟨hk9, fun _ h => .inl h⟩
    have hBc : B ≤ wc.heap.size := Nat.le_trans hB HBW.out.size
    have hl9 := HL.out.setX hBc 2 (o := boxT (w.heap.size + 2) zero8 60) (o' := boxT (w.heap.size + 2) (M'.cells (t.play a)) 60) rfl hq9 (boxT_local _ _ _) ht
    have hfin : PlaySaid B X (t.play a) w (.returned (.agg (M'.cells (t.play a)))) w9 := by
      refine ⟨M', rfl, ?_, HBW.out.trans (Sep.under (o := boxT (w.heap.size + 2) zero8 60) HL.out hBc (List.mem_append_right _ (List.mem_append_left _ (by simp [boxes3]))) ht)⟩
      exact Lay.unbox hl9
    exact hfin
end
end Go.Proofs.Ytblaanohidldpaa.Link
