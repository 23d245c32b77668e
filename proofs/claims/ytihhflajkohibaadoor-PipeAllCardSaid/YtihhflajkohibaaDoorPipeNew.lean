/- Layer 10: a new pipe, and what goes out of a side. Conditions: the pipe lies (PipeIs); the program's variables are as they were laid (Env). -/
import Derived.Test.YtihhflajkohibaaDoorPipe
import Derived.Test.YtihhflajkohibaaDoorFrVec
namespace Go.Proofs.YtihhflajkohibaaDoor.Pipe
set_option linter.unusedSimpArgs false
set_option linter.unusedVariables false
set_option maxRecDepth 100000
open Go.RowKit
open Go.Proofs.YtihhflajkohibaaDoor
open Go.Proofs.YtihhflajkohibaaDoor.Link (LE Fr EndIs)
open Go.Proofs.YtihhflajkohibaaDoor.Net (NS NetIs)
def pt (o : Option Nat) : Value := .pointer (o.map fun a => ⟨a, 0, none⟩)
def newCells (q : Nat) (l : List Nat) : Array Value := #[pt l[0]?, pt l[1]?, .slice none 0 0, .slice none 0 0, .pointer (some ⟨q, 0, none⟩)]
theorem newCells_set (q : Nat) (l : List Nat) (a k : Nat) (hk : k < 2) (h : l.length = k) : (newCells q l).setIfInBounds k (.pointer (some ⟨a, 0, none⟩)) = newCells q (l ++ [a]) := by
  subst h
  match l, hk with
  | [], _ => rfl
  | [b], _ => rfl
  | _ :: _ :: _, h => simp at h; omega
theorem newCells_at (q : Nat) (l : List Nat) (k : Nat) (hk : k < 2) : ∃ u, (newCells q l)[k]? = some u := by
  have : k = 0 ∨ k = 1 := by omega
  rcases this with rfl | rfl <;> exact ⟨_, rfl⟩
/-- what stands between the rounds of New -/
def NewSt (w : World) (x : LE) (n : NS) (p k : Nat) (wr : World) : Prop := ∃ (q : Nat) (G : List Nat) (l : List Nat), l.length = k ∧ Below w.heap.size w wr ∧
  Sep w.heap.size wr (boxT p (newCells q l) 53 :: netT q G n :: l.map fun a => endT a [a] x)
/-- .. and an end more -/
def NewMid (w : World) (x : LE) (n : NS) (p k a : Nat) (wr : World) : Prop := ∃ (q : Nat) (G : List Nat) (l : List Nat), l.length = k ∧ Below w.heap.size w wr ∧
  Sep w.heap.size wr (endT a [a] x :: boxT p (newCells q l) 53 :: netT q G n :: l.map fun a => endT a [a] x)
section
variable {w wr w' : World} {x : LE} {n : NS} {p k a : Nat}
theorem NewSt.drewN (h : NewSt w x n p k wr) (j : Nat) : NewSt w x n p k (wr.drewN j) := by
  obtain ⟨q, G, l, hl, hb, hs⟩ := h
  exact ⟨q, G, l, hl, below_drewN hb j, hs.drewN j⟩
theorem NewSt.more (h : NewSt w x n p k wr) (he : EndIs w' wr.heap.size [wr.heap.size] x) (hb' : Below wr.heap.size wr w') : NewMid w x n p k wr.heap.size w' := by
  obtain ⟨q, G, l, hl, hb, hs⟩ := h
  exact ⟨q, G, l, hl, hb.trans (hb'.mono hb.size), Sep.more hs hb.size hb' (o := endT wr.heap.size [wr.heap.size] x) he (endT_local _ _ _) (fun k hk => by simp [endT] at hk; omega)⟩
theorem NewMid.set (h : NewMid w x n p k a wr) (hk : k < 2) : (∃ u, wr.cell? ⟨p, k, none⟩ = some u) ∧ wr.frozen? ⟨p, k, none⟩ = false ∧ NewSt w x n p (k + 1) (wr.setCell ⟨p, k, none⟩ (.pointer (some ⟨a, 0, none⟩))) := by
  obtain ⟨q, G, l, hl, hb, hs⟩ := h
  have hbx : wr.heap[p]? = some (.cells (newCells q l) 53 (0, 0)) := Sep.at (o := boxT p (newCells q l) 53) hs 1 rfl
  have ht : Turns [p] [p] wr (wr.setCell ⟨p, k, none⟩ (.pointer (some ⟨a, 0, none⟩))) := ⟨(Kept.refl [p] wr).setCell (.inl (by simp)) _, fun _ h => .inl h⟩
  have h1 := Sep.turn hs hb.size 1 (o := boxT p (newCells q l) 53) rfl (o' := boxT p (newCells q (l ++ [a])) 53) (by have := set_block hbx k (.pointer (some ⟨a, 0, none⟩)); rw [newCells_set q l a k hk hl] at this; exact this) (boxT_local _ _ _) ht
  have hu := Sep.under hs hb.size (o := boxT p (newCells q l) 53) (by simp) ht
  obtain ⟨u, hu'⟩ := newCells_at q l k hk
  refine ⟨⟨u, (cell_of_block hbx k).trans hu'⟩, frozen_of_block hbx k, q, G, l ++ [a], by simp [hl], hb.trans hu, ?_⟩
  refine Sep.perm h1 ?_
  rw [List.map_append]
  exact (List.perm_append_comm (l₁ := [endT a [a] x]) (l₂ := boxT p (newCells q (l ++ [a])) 53 :: netT q G n :: l.map fun a => endT a [a] x))
theorem sep_nil_tx {B : Nat} {w : World} {l : List Thing} (h : Sep B w l) : Sep B w (txT ⟨none, 0, []⟩ [] :: l) :=
  .cons _ _ (Vec.nil w 1) (txT_local _ _) (fun k hk => by simp [txT, vecT] at hk) (fun m _ k hk => by simp [txT, vecT] at hk) h
theorem NewSt.done (h : NewSt w x n p 2 wr) : ∃ F, PipeIs w.heap.size wr p F ⟨fun _ => x, fun _ => [], n⟩ ∧ (∀ k, k ∈ F → w.heap.size ≤ k) ∧ Below w.heap.size w wr := by
  obtain ⟨q, G, l, hl, hb, hs⟩ := h
  match l, hl with
  | [a, b], _ =>
    have h1 := sep_nil_tx (sep_nil_tx hs)
    have h2 : PipeIs w.heap.size wr p _ ⟨fun _ => x, fun _ => [], n⟩ := ⟨⟨fun c => if c then b else a, fun c => if c then [b] else [a], fun _ => ⟨none, 0, []⟩, q, G⟩, rfl, by
      refine Sep.perm h1 ?_
      refine (List.perm_append_comm (l₁ := [txT ⟨none, 0, []⟩ [], txT ⟨none, 0, []⟩ []]) (l₂ := [boxT p _ _, netT q G n, endT a [a] x, endT b [b] x])).trans ?_
      exact (List.perm_append_comm (l₁ := [netT q G n]) (l₂ := [endT a [a] x, endT b [b] x, txT ⟨none, 0, []⟩ [], txT ⟨none, 0, []⟩ []])).cons _⟩
    exact ⟨_, h2, h2.new, hb⟩
end
set_option maxHeartbeats 2000000 in
theorem new_any (epoch first window queue wait room : Int) (hf : Link.u first = first) (w : World) :
    Calls Tryd.prog 8 #[.int .i64 epoch, .int .u64 first, .int .i64 window, .int .i64 queue, .int .i64 wait, .int .i64 room] w fun e w' => ∃ p F, e = .returned (.pointer (some ⟨p, 0, none⟩)) ∧ PipeIs w.heap.size w' p F (new epoch first window queue wait room) ∧ (∀ k, k ∈ F → w.heap.size ≤ k) ∧ Below w.heap.size w w' := by
  have HF := Lib.hid hf
  clear hf
  obtain ⟨x, hx⟩ : ∃ x, Link.new epoch first window queue wait = x := ⟨_, rfl⟩
  have HX := Lib.hid hx
  clear hx
  go_enter Tryd.func8, Tryd.ntmps8
  go_wp2_with fail
  refine (Net.new_any 2 room _).mono ?_
  rintro e w1 ⟨q, G, rfl, hn, hG, hb⟩
  have hba : Below w1.heap.size w1 (w1.alloc (.cells #[.pointer none, .pointer none, .slice none 0 0, .slice none 0 0, .pointer (some ⟨q, 0, none⟩)] 53)) := (Below.refl _ _).alloc (Nat.le_refl _) _
  have hs1 : Sep w.heap.size w1 [netT q G (Net.new 2 room)] := .cons _ _ hn (netT_local _ _ _) hG (fun m hm => by cases hm) .nil
  have hst := Sep.more (o := boxT w1.heap.size #[.pointer none, .pointer none, .slice none 0 0, .slice none 0 0, .pointer (some ⟨q, 0, none⟩)] 53) hs1 hb.size hba (heap_alloc_new w1 _) (boxT_local _ _ _) (fun k hk => by simp [boxT] at hk; omega)
  have HST := Lib.hid (show NewSt w x (Net.new 2 room) w1.heap.size 0 (w1.alloc (.cells #[.pointer none, .pointer none, .slice none 0 0, .slice none 0 0, .pointer (some ⟨q, 0, none⟩)] 53)) from ⟨q, G, [], rfl, hb.trans (hba.mono hb.size), hst⟩)
  clear hn hG hb hba hs1 hst
  go_wp2_with fail
  go_loopw [19] (fun i wr => ∃ k : Nat, k ≤ 2 ∧ i = .int .i64 (k : Int) ∧ NewSt w x (Net.new 2 room) w1.heap.size k wr) (fun i _ => 2 - (intOf i).toNat)
  case atStart => exact ⟨0, by omega, rfl, HST.out⟩
  case round =>
    obtain ⟨k, hk, rfl, hs⟩ := hrel
    by_cases hlt : k < 2
    · have hd : decide ((k : Int) < 2) = true := by simp; omega
      have k0 : (0 : Int) ≤ (k : Int) := by omega
      have k1 : (k : Int) < 2 := by omega
      have HS := Lib.hid hs
      clear hs hk
      go_wp2_with fail
      refine' wp_flow [only 0 _, only 1 _, only 2 _, only 3 _, only 4 _, only 5 _, only 6 _, (fun us v => ∃ a, us 7 = .pointer (some ⟨a, 0, none⟩) ∧ NewMid w x (Net.new 2 room) w1.heap.size k a v), only 8 _, only 9 _, only 10 (.pointer (some ⟨w1.heap.size, k, none⟩)), (fun _ v => NewSt w x (Net.new 2 room) w1.heap.size (k + 1) v), (fun _ v => NewSt w x (Net.new 2 room) w1.heap.size k v)] (fun _ => True) [[], [], [], [], [], [], [], [2, 3, 4, 5, 6, 12], [0], [8], [1, 9], [7, 10]] [[], [], [], [], [], [], [], [12], [], [], [], [7]] [[], [], [], [], [], [], [], [], [], [], [], []] [[7, 12], [7, 12], [12], [12], [12], [12], [12], [], [7, 12], [7, 12], [7, 12], []] [7, 11, 12] [0, 0, 0, 0, 0, 0, 0, 124, 1, 257, 771, 2047] _ (fun us => ?hfr) (by kernel_rfl) (by kernel_rfl) (by kernel_rfl) ⟨only_still _, only_still _, only_still _, only_still _, only_still _, only_still _, only_still _, trivial, only_still _, only_still _, only_still _, trivial, trivial, trivial⟩ (trivial) (by simp) (HS.out.drewN 1) ?hst ?hla
      case hfr => (simp only [List.cons_append, List.nil_append, putAll, Act.put, List.setIfInBounds_toArray, List.set_cons_zero, List.set_cons_succ, Nat.reduceAdd]; rfl)
      case hst =>
        refine ⟨?_, ?_, ?_, ?_, ?_, ?_, ?_, ?_, ?_, ?_, ?_, ?_, trivial⟩
        · intro us v hR hn ho K hK
          clear ho
          skip
          rw [if_pos (by rfl)]
          go_simp
          refine hK _ _ _ (by simp only [Act.put, List.setIfInBounds_toArray, List.set_cons_zero, List.set_cons_succ, Nat.reduceAdd] <;> rfl) ?_ hR ⟨fun h => h, fun h => h, trivial⟩
          refine only_mk (v := v) ?_
          with_reducible rfl
        · intro us v hR hn ho K hK
          clear ho
          skip
          rw [if_pos (by rfl)]
          go_simp
          refine hK _ _ _ (by simp only [Act.put, List.setIfInBounds_toArray, List.set_cons_zero, List.set_cons_succ, Nat.reduceAdd] <;> rfl) ?_ hR ⟨fun h => h, fun h => h, trivial⟩
          refine only_mk (v := v) ?_
          with_reducible rfl
        · intro us v hR hn ho K hK
          clear ho
          skip
          rw [if_pos (by rfl)]
          go_simp
          refine hK _ _ _ (by simp only [Act.put, List.setIfInBounds_toArray, List.set_cons_zero, List.set_cons_succ, Nat.reduceAdd] <;> rfl) ?_ hR ⟨fun h => h, trivial⟩
          refine only_mk (v := v) ?_
          with_reducible rfl
        · intro us v hR hn ho K hK
          clear ho
          skip
          rw [if_pos (by rfl)]
          go_simp
          refine hK _ _ _ (by simp only [Act.put, List.setIfInBounds_toArray, List.set_cons_zero, List.set_cons_succ, Nat.reduceAdd] <;> rfl) ?_ hR ⟨fun h => h, trivial⟩
          refine only_mk (v := v) ?_
          with_reducible rfl
        · intro us v hR hn ho K hK
          clear ho
          skip
          rw [if_pos (by rfl)]
          go_simp
          refine hK _ _ _ (by simp only [Act.put, List.setIfInBounds_toArray, List.set_cons_zero, List.set_cons_succ, Nat.reduceAdd] <;> rfl) ?_ hR ⟨fun h => h, trivial⟩
          refine only_mk (v := v) ?_
          with_reducible rfl
        · intro us v hR hn ho K hK
          clear ho
          skip
          rw [if_pos (by rfl)]
          go_simp
          refine hK _ _ _ (by simp only [Act.put, List.setIfInBounds_toArray, List.set_cons_zero, List.set_cons_succ, Nat.reduceAdd] <;> rfl) ?_ hR ⟨fun h => h, trivial⟩
          refine only_mk (v := v) ?_
          with_reducible rfl
        · intro us v hR hn ho K hK
          clear ho
          skip
          rw [if_pos (by rfl)]
          go_simp
          refine hK _ _ _ (by simp only [Act.put, List.setIfInBounds_toArray, List.set_cons_zero, List.set_cons_succ, Nat.reduceAdd] <;> rfl) ?_ hR ⟨fun h => h, trivial⟩
          refine only_mk (v := v) ?_
          with_reducible rfl
        · intro us v hR hn ho K hK
          obtain ⟨n2, n3, n4, n5, n6, ns, -⟩ := hn
          have n2 : us 2 = _ := n2
          have n3 : us 3 = _ := n3
          have n4 : us 4 = _ := n4
          have n5 : us 5 = _ := n5
          have n6 : us 6 = _ := n6
          clear ho
          skip
          rw [if_pos (by rfl)]
          go_simp
          refine (Link.new_any epoch first window queue wait HF.out _).mono ?_
          rw [HX.out]
          rintro e v' ⟨rfl, he, hb⟩
          dsimp only
          exact hK _ _ _ (by simp only [Act.put, List.setIfInBounds_toArray, List.set_cons_zero, List.set_cons_succ, Nat.reduceAdd, n2, n3, n4, n5, n6] <;> rfl) ⟨_, rfl, ns.more he hb⟩ trivial trivial
        · intro us v hR hn ho K hK
          obtain ⟨n0, -⟩ := hn
          have n0 : us 0 = _ := n0
          clear ho
          skip
          rw [if_pos (by rfl)]
          go_simp
          refine hK _ _ _ (by simp only [Act.put, List.setIfInBounds_toArray, List.set_cons_zero, List.set_cons_succ, Nat.reduceAdd, n0] <;> rfl) ?_ hR ⟨fun h => h, fun h => h, trivial⟩
          refine only_mk (v := v) ?_
          with_reducible rfl
        · intro us v hR hn ho K hK
          obtain ⟨n8, -⟩ := hn
          have n8 : us 8 = _ := n8
          clear ho
          skip
          rw [if_pos (by rfl)]
          go_simp
          refine hK _ _ _ (by simp only [Act.put, List.setIfInBounds_toArray, List.set_cons_zero, List.set_cons_succ, Nat.reduceAdd, n8] <;> rfl) ?_ hR ⟨fun h => h, fun h => h, trivial⟩
          refine only_mk (v := v) ?_
          with_reducible rfl
        · intro us v hR hn ho K hK
          obtain ⟨n1, n9, -⟩ := hn
          have n1 : us 1 = _ := n1
          have n9 : us 9 = _ := n9
          clear ho
          skip
          rw [if_pos (by rfl)]
          go_simp
          refine hK _ _ _ (by simp only [Act.put, List.setIfInBounds_toArray, List.set_cons_zero, List.set_cons_succ, Nat.reduceAdd, n1, n9] <;> rfl) ?_ hR ⟨fun h => h, fun h => h, trivial⟩
          refine only_mk (v := v) ?_
          with_reducible rfl
        · intro us v hR hn ho K hK
          obtain ⟨n7, n10, -⟩ := hn
          have n10 : us 10 = _ := n10
          clear ho
          skip
          obtain ⟨a, n7, hm⟩ := n7
          obtain ⟨⟨u, y0⟩, f0, hm⟩ := hm.set hlt
          have HM := Lib.hid hm
          clear hm
          rw [if_pos (by rfl)]
          go_simp
          exact hK undef _ _ (by simp only [Act.put, List.setIfInBounds_toArray, List.set_cons_zero, List.set_cons_succ, Nat.reduceAdd, n10, n7] <;> rfl) HM.out trivial trivial
      case hla =>
        intro us v hR hl
        obtain ⟨n0, n1, n2, n3, n4, n5, n6, n8, n9, n10, n11, -⟩ := need_last hl [0, 1, 2, 3, 4, 5, 6, 8, 9, 10, 11] (by kernel_rfl)
        have n0 : us 0 = _ := n0
        have n1 : us 1 = _ := n1
        have n2 : us 2 = _ := n2
        have n3 : us 3 = _ := n3
        have n4 : us 4 = _ := n4
        have n5 : us 5 = _ := n5
        have n6 : us 6 = _ := n6
        have n8 : us 8 = _ := n8
        have n9 : us 9 = _ := n9
        have n10 : us 10 = _ := n10
        skip
        simp only [n0, n1, n2, n3, n4, n5, n6, n8, n9, n10]
        clear hl n0 n1 n2 n3 n4 n5 n6 n8 n9 n10
        have HS2 := Lib.hid n11
        clear n11
        go_wp2_with fail
        go_roundw
        case rel => exact ⟨k + 1, hlt, by go_num, HS2.out⟩
        case measure => simp [intOf]; omega
    · obtain rfl : k = 2 := by omega
      have HS := Lib.hid hs
      clear hs
      go_wp2_with fail
      go_ret
      obtain ⟨F, h1, h2, h3⟩ := HS.out.done
      exact ⟨w1.heap.size, F, rfl, by unfold new; rw [HX.out]; exact h1, h2, h3⟩
end Go.Proofs.YtihhflajkohibaaDoor.Pipe
