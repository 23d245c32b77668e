/- Layer 10: a new pipe, and what goes out of a side. Conditions: the pipe lies (PipeIs); the program's variables are as they were laid (Env). -/
import Derived.Test.YtihhflajkohibaaGreatDoorPipe
import Derived.Test.YtihhflajkohibaaGreatDoorFrVec
namespace Go.Proofs.YtihhflajkohibaaGreatDoor.Pipe
set_option linter.unusedSimpArgs false
set_option linter.unusedVariables false
set_option maxRecDepth 100000
open Go.RowKit
open Go.Proofs.YtihhflajkohibaaGreatDoor
open Go.Proofs.YtihhflajkohibaaGreatDoor.Link (LE Fr EndIs)
open Go.Proofs.YtihhflajkohibaaGreatDoor.Net (NS NetIs)
def pt (o : Option Nat) : Value := .pointer (o.map fun a => ⟨a, 0, none⟩)
def newCells (q : Nat) (l : List Nat) : Array Value := #[pt l[0]?, pt l[1]?, .slice none 0 0, .slice none 0 0, .pointer (some ⟨q, 0, none⟩)]
theorem newCells_set (q : Nat) (l : List Nat) (a k : Nat) (hk : k < 2) (h : l.length = k) : (newCells q l).setIfInBounds k (.pointer (some ⟨a, 0, none⟩)) = newCells q (l ++ [a]) := by
  subst h
  match l, hk with
  | [], _ => rfl
  | [b], _ => rfl
  | _ :: _ :: _, h => simp at h; omega
theorem newCells_at (q : Nat) (l : List Nat) (k : Nat) (hk : k < 2) : ∃ u, (newCells q l)[k]? = some u := by
  have : k = 0 ∨ k = 1 := by omega
  rcases this with rfl | rfl <;> exact ⟨_, rfl⟩
/-- what stands between the rounds of New -/
def NewSt (w : World) (x : LE) (n : NS) (p k : Nat) (wr : World) : Prop := ∃ (q : Nat) (G : List Nat) (l : List Nat), l.length = k ∧ Below w.heap.size w wr ∧
  Sep w.heap.size wr (boxT p (newCells q l) 70 :: netT q G n :: l.map fun a => endT a [a] x)
/-- .. and an end more -/
def NewMid (w : World) (x : LE) (n : NS) (p k a : Nat) (wr : World) : Prop := ∃ (q : Nat) (G : List Nat) (l : List Nat), l.length = k ∧ Below w.heap.size w wr ∧
  Sep w.heap.size wr (endT a [a] x :: boxT p (newCells q l) 70 :: netT q G n :: l.map fun a => endT a [a] x)
section
variable {w wr w' : World} {x : LE} {n : NS} {p k a : Nat}
theorem NewSt.drewN (h : NewSt w x n p k wr) (j : Nat) : NewSt w x n p k (wr.drewN j) := by
  obtain ⟨q, G, l, hl, hb, hs⟩ := h
  exact ⟨q, G, l, hl, below_drewN hb j, hs.drewN j⟩
theorem NewSt.more (h : NewSt w x n p k wr) (he : EndIs w' wr.heap.size [wr.heap.size] x) (hb' : Below wr.heap.size wr w') : NewMid w x n p k wr.heap.size w' := by
  obtain ⟨q, G, l, hl, hb, hs⟩ := h
  exact ⟨q, G, l, hl, hb.trans (hb'.mono hb.size), Sep.more hs hb.size hb' (o := endT wr.heap.size [wr.heap.size] x) he (endT_local _ _ _) (fun k hk => by simp [endT] at hk; omega)⟩
theorem NewMid.set (h : NewMid w x n p k a wr) (hk : k < 2) : (∃ u, wr.cell? ⟨p, k, none⟩ = some u) ∧ wr.frozen? ⟨p, k, none⟩ = false ∧ NewSt w x n p (k + 1) (wr.setCell ⟨p, k, none⟩ (.pointer (some ⟨a, 0, none⟩))) := by
  obtain ⟨q, G, l, hl, hb, hs⟩ := h
  have hbx : wr.heap[p]? = some (.cells (newCells q l) 70 (0, 0)) := Sep.at (o := boxT p (newCells q l) 70) hs 1 rfl
  have ht : Turns [p] [p] wr (wr.setCell ⟨p, k, none⟩ (.pointer (some ⟨a, 0, none⟩))) := ⟨(Kept.refl [p] wr).setCell (.inl (by simp)) _, fun _ h => .inl h⟩
  have h1 := Sep.turn hs hb.size 1 (o := boxT p (newCells q l) 70) rfl (o' := boxT p (newCells q (l ++ [a])) 70) (by have := set_block hbx k (.pointer (some ⟨a, 0, none⟩)); rw [newCells_set q l a k hk hl] at this; exact this) (boxT_local _ _ _) ht
  have hu := Sep.under hs hb.size (o := boxT p (newCells q l) 70) (by simp) ht
  obtain ⟨u, hu'⟩ := newCells_at q l k hk
  refine ⟨⟨u, (cell_of_block hbx k).trans hu'⟩, frozen_of_block hbx k, q, G, l ++ [a], by simp [hl], hb.trans hu, ?_⟩
  refine Sep.perm h1 ?_
  rw [List.map_append]
  exact (List.perm_append_comm (l₁ := [endT a [a] x]) (l₂ := boxT p (newCells q (l ++ [a])) 70 :: netT q G n :: l.map fun a => endT a [a] x))
theorem sep_nil_tx {B : Nat} {w : World} {l : List Thing} (h : Sep B w l) : Sep B w (txT ⟨none, 0, []⟩ [] :: l) :=
  .cons _ _ (Vec.nil w 1) (txT_local _ _) (fun k hk => by simp [txT, vecT] at hk) (fun m _ k hk => by simp [txT, vecT] at hk) h
theorem NewSt.done (h : NewSt w x n p 2 wr) : ∃ F, PipeIs w.heap.size wr p F ⟨fun _ => x, fun _ => [], n⟩ ∧ (∀ k, k ∈ F → w.heap.size ≤ k) ∧ Below w.heap.size w wr := by
  obtain ⟨q, G, l, hl, hb, hs⟩ := h
  match l, hl with
  | [a, b], _ =>
    have h1 := sep_nil_tx (sep_nil_tx hs)
    have h2 : PipeIs w.heap.size wr p _ ⟨fun _ => x, fun _ => [], n⟩ := ⟨⟨fun c => if c then b else a, fun c => if c then [b] else [a], fun _ => ⟨none, 0, []⟩, q, G⟩, rfl, by
      refine Sep.perm h1 ?_
      refine (List.perm_append_comm (l₁ := [txT ⟨none, 0, []⟩ [], txT ⟨none, 0, []⟩ []]) (l₂ := [boxT p _ _, netT q G n, endT a [a] x, endT b [b] x])).trans ?_
      exact (List.perm_append_comm (l₁ := [netT q G n]) (l₂ := [endT a [a] x, endT b [b] x, txT ⟨none, 0, []⟩ [], txT ⟨none, 0, []⟩ []])).cons _⟩
    exact ⟨_, h2, h2.new, hb⟩
end
set_option maxHeartbeats 2000000 in
theorem new_any (epoch first window queue wait room : Int) (hf : Link.u first = first) (w : World) :
    Calls Tryz.prog 4 #[.int .i64 epoch, .int .u64 first, .int .i64 window, .int .i64 queue, .int .i64 wait, .int .i64 room] w fun e w' => ∃ p F, e = .returned (.pointer (some ⟨p, 0, none⟩)) ∧ PipeIs w.heap.size w' p F (new epoch first window queue wait room) ∧ (∀ k, k ∈ F → w.heap.size ≤ k) ∧ Below w.heap.size w w' := by
  have HF := Lib.hid hf
  clear hf
  obtain ⟨x, hx⟩ : ∃ x, Link.new epoch first window queue wait = x := ⟨_, rfl⟩
  have HX := Lib.hid hx
  clear hx
  go_enter Tryz.func4, Tryz.ntmps4
  go_wp2_with fail
  refine (Net.new_any 2 room _).mono ?_
  rintro e w1 ⟨q, G, rfl, hn, hG, hb⟩
  have hba : Below w1.heap.size w1 (w1.alloc (.cells #[.pointer none, .pointer none, .slice none 0 0, .slice none 0 0, .pointer (some ⟨q, 0, none⟩)] 70)) := (Below.refl _ _).alloc (Nat.le_refl _) _
  have hs1 : Sep w.heap.size w1 [netT q G (Net.new 2 room)] := .cons _ _ hn (netT_local _ _ _) hG (fun m hm => by cases hm) .nil
  have hst := Sep.more (o := boxT w1.heap.size #[.pointer none, .pointer none, .slice none 0 0, .slice none 0 0, .pointer (some ⟨q, 0, none⟩)] 70) hs1 hb.size hba (heap_alloc_new w1 _) (boxT_local _ _ _) (fun k hk => by simp [boxT] at hk; omega)
  have HST := Lib.hid (show NewSt w x (Net.new 2 room) w1.heap.size 0 (w1.alloc (.cells #[.pointer none, .pointer none, .slice none 0 0, .slice none 0 0, .pointer (some ⟨q, 0, none⟩)] 70)) from ⟨q, G, [], rfl, hb.trans (hba.mono hb.size), hst⟩)
  clear hn hG hb hba hs1 hst
  go_wp2_with fail
  go_loopw [19] (fun i wr => ∃ k : Nat, k ≤ 2 ∧ i = .int .i64 (k : Int) ∧ NewSt w x (Net.new 2 room) w1.heap.size k wr) (fun i _ => 2 - (intOf i).toNat)
  case atStart => exact ⟨0, by omega, rfl, HST.out⟩
  case round =>
    obtain ⟨k, hk, rfl, hs⟩ := hrel
    by_cases hlt : k < 2
    · have hd : decide ((k : Int) < 2) = true := by simp; omega
      have k0 : (0 : Int) ≤ (k : Int) := by omega
      have k1 : (k : Int) < 2 := by omega
      have HS := Lib.hid hs
      clear hs hk
      go_wp2_with fail
      refine' wp_flow [only 0 _, only 1 _, only 2 _, only 3 _, only 4 _, only 5 _, only 6 _, (fun us v => ∃ a, us 7 = .pointer (some ⟨a, 0, none⟩) ∧ NewMid w x (Net.new 2 room) w1.heap.size k a v), only 8 _, only 9 _, only 10 (.pointer (some ⟨w1.heap.size, k, none⟩)), (fun _ v => NewSt w x (Net.new 2 room) w1.heap.size (k + 1) v), (fun _ v => NewSt w x (Net.new 2 room) w1.heap.size k v)] (fun _ => True) [[], [], [], [], [], [], [], [2, 3, 4, 5, 6, 12], [0], [8], [1, 9], [7, 10]] [[], [], [], [], [], [], [], [12], [], [], [], [7]] [[], [], [], [], [], [], [], [], [], [], [], []] [[7, 12], [7, 12], [12], [12], [12], [12], [12], [], [7, 12], [7, 12], [7, 12], []] [7, 11, 12] [0, 0, 0, 0, 0, 0, 0, 124, 1, 257, 771, 2047] _ (fun us => ?hfr) (by kernel_rfl) (by kernel_rfl) (by kernel_rfl) ⟨only_still _, only_still _, only_still _, only_still _, only_still _, only_still _, only_still _, trivial, only_still _, only_still _, only_still _, trivial, trivial, trivial⟩ (trivial) (by simp) (HS.out.drewN 1) ?hst ?hla
      case hfr => (simp only [List.cons_append, List.nil_append, putAll, Act.put, List.setIfInBounds_toArray, List.set_cons_zero, List.set_cons_succ, Nat.reduceAdd]; rfl)
      case hst =>
        refine ⟨?_, ?_, ?_, ?_, ?_, ?_, ?_, ?_, ?_, ?_, ?_, ?_, trivial⟩
        · intro us v hR hn ho K hK
          clear ho
          skip
          rw [if_pos (by rfl)]
          go_simp
          refine hK _ _ _ (by simp only [Act.put, List.setIfInBounds_toArray, List.set_cons_zero, List.set_cons_succ, Nat.reduceAdd] <;> rfl) ?_ hR ⟨fun h => h, fun h => h, trivial⟩
          refine only_mk (v := v) ?_
          with_reducible rfl
        · intro us v hR hn ho K hK
          clear ho
          skip
          rw [if_pos (by rfl)]
          go_simp
          refine hK _ _ _ (by simp only [Act.put, List.setIfInBounds_toArray, List.set_cons_zero, List.set_cons_succ, Nat.reduceAdd] <;> rfl) ?_ hR ⟨fun h => h, fun h => h, trivial⟩
          refine only_mk (v := v) ?_
          with_reducible rfl
        · intro us v hR hn ho K hK
          clear ho
          skip
          rw [if_pos (by rfl)]
          go_simp
          refine hK _ _ _ (by simp only [Act.put, List.setIfInBounds_toArray, List.set_cons_zero, List.set_cons_succ, Nat.reduceAdd] <;> rfl) ?_ hR ⟨fun h => h, trivial⟩
          refine only_mk (v := v) ?_
          with_reducible rfl
        · intro us v hR hn ho K hK
          clear ho
          skip
          rw [if_pos (by rfl)]
          go_simp
          refine hK _ _ _ (by simp only [Act.put, List.setIfInBounds_toArray, List.set_cons_zero, List.set_cons_succ, Nat.reduceAdd] <;> rfl) ?_ hR ⟨fun h => h, trivial⟩
          refine only_mk (v := v) ?_
          with_reducible rfl
        · intro us v hR hn ho K hK
          clear ho
          skip
          rw [if_pos (by rfl)]
          go_simp
          refine hK _ _ _ (by simp only [Act.put, List.setIfInBounds_toArray, List.set_cons_zero, List.set_cons_succ, Nat.reduceAdd] <;> rfl) ?_ hR ⟨fun h => h, trivial⟩
          refine only_mk (v := v) ?_
          with_reducible rfl
        · intro us v hR hn ho K hK
          clear ho
          skip
          rw [if_pos (by rfl)]
          go_simp
          refine hK _ _ _ (by simp only [Act.put, List.setIfInBounds_toArray, List.set_cons_zero, List.set_cons_succ, Nat.reduceAdd] <;> rfl) ?_ hR ⟨fun h => h, trivial⟩
          refine only_mk (v := v) ?_
          with_reducible rfl
        · intro us v hR hn ho K hK
          clear ho
          skip
          rw [if_pos (by rfl)]
          go_simp
          refine hK _ _ _ (by simp only [Act.put, List.setIfInBounds_toArray, List.set_cons_zero, List.set_cons_succ, Nat.reduceAdd] <;> rfl) ?_ hR ⟨fun h => h, trivial⟩
          refine only_mk (v := v) ?_
          with_reducible rfl
        · intro us v hR hn ho K hK
          obtain ⟨n2, n3, n4, n5, n6, ns, -⟩ := hn
          have n2 : us 2 = _ := n2
          have n3 : us 3 = _ := n3
          have n4 : us 4 = _ := n4
          have n5 : us 5 = _ := n5
          have n6 : us 6 = _ := n6
          clear ho
          skip
          rw [if_pos (by rfl)]
          go_simp
          refine (Link.new_any epoch first window queue wait HF.out _).mono ?_
          rw [HX.out]
          rintro e v' ⟨rfl, he, hb⟩
          dsimp only
          exact hK _ _ _ (by simp only [Act.put, List.setIfInBounds_toArray, List.set_cons_zero, List.set_cons_succ, Nat.reduceAdd, n2, n3, n4, n5, n6] <;> rfl) ⟨_, rfl, ns.more he hb⟩ trivial trivial
        · intro us v hR hn ho K hK
          obtain ⟨n0, -⟩ := hn
          have n0 : us 0 = _ := n0
          clear ho
          skip
          rw [if_pos (by rfl)]
          go_simp
          refine hK _ _ _ (by simp only [Act.put, List.setIfInBounds_toArray, List.set_cons_zero, List.set_cons_succ, Nat.reduceAdd, n0] <;> rfl) ?_ hR ⟨fun h => h, fun h => h, trivial⟩
          refine only_mk (v := v) ?_
          with_reducible rfl
        · intro us v hR hn ho K hK
          obtain ⟨n8, -⟩ := hn
          have n8 : us 8 = _ := n8
          clear ho
          skip
          rw [if_pos (by rfl)]
          go_simp
          refine hK _ _ _ (by simp only [Act.put, List.setIfInBounds_toArray, List.set_cons_zero, List.set_cons_succ, Nat.reduceAdd, n8] <;> rfl) ?_ hR ⟨fun h => h, fun h => h, trivial⟩
          refine only_mk (v := v) ?_
          with_reducible rfl
        · intro us v hR hn ho K hK
          obtain ⟨n1, n9, -⟩ := hn
          have n1 : us 1 = _ := n1
          have n9 : us 9 = _ := n9
          clear ho
          skip
          rw [if_pos (by rfl)]
          go_simp
          refine hK _ _ _ (by simp only [Act.put, List.setIfInBounds_toArray, List.set_cons_zero, List.set_cons_succ, Nat.reduceAdd, n1, n9] <;> rfl) ?_ hR ⟨fun h => h, fun h => h, trivial⟩
          refine only_mk (v := v) ?_
          with_reducible rfl
        · intro us v hR hn ho K hK
          obtain ⟨n7, n10, -⟩ := hn
          have n10 : us 10 = _ := n10
          clear ho
          skip
          obtain ⟨a, n7, hm⟩ := n7
          obtain ⟨⟨u, y0⟩, f0, hm⟩ := hm.set hlt
          have HM := Lib.hid hm
          clear hm
          rw [if_pos (by rfl)]
          go_simp
          exact hK undef _ _ (by simp only [Act.put, List.setIfInBounds_toArray, List.set_cons_zero, List.set_cons_succ, Nat.reduceAdd, n10, n7] <;> rfl) HM.out trivial trivial
      case hla =>
        intro us v hR hl
        obtain ⟨n0, n1, n2, n3, n4, n5, n6, n8, n9, n10, n11, -⟩ := need_last hl [0, 1, 2, 3, 4, 5, 6, 8, 9, 10, 11] (by kernel_rfl)
        have n0 : us 0 = _ := n0
        have n1 : us 1 = _ := n1
        have n2 : us 2 = _ := n2
        have n3 : us 3 = _ := n3
        have n4 : us 4 = _ := n4
        have n5 : us 5 = _ := n5
        have n6 : us 6 = _ := n6
        have n8 : us 8 = _ := n8
        have n9 : us 9 = _ := n9
        have n10 : us 10 = _ := n10
        skip
        simp only [n0, n1, n2, n3, n4, n5, n6, n8, n9, n10]
        clear hl n0 n1 n2 n3 n4 n5 n6 n8 n9 n10
        have HS2 := Lib.hid n11
        clear n11
        go_wp2_with fail
        go_roundw
        case rel => exact ⟨k + 1, hlt, by go_num, HS2.out⟩
        case measure => simp [intOf]; omega
    · obtain rfl : k = 2 := by omega
      have HS := Lib.hid hs
      clear hs
      go_wp2_with fail
      go_ret
      obtain ⟨F, h1, h2, h3⟩ := HS.out.done
      exact ⟨w1.heap.size, F, rfl, by unfold new; rw [HX.out]; exact h1, h2, h3⟩
end Go.Proofs.YtihhflajkohibaaGreatDoor.Pipe
/- Layer 10: what goes out of a side goes on its way. Conditions: the pipe lies (PipeIs); the program's variables are as they were laid (Env). -/
namespace Go.Proofs.YtihhflajkohibaaGreatDoor.Pipe
set_option linter.unusedSimpArgs false
set_option linter.unusedVariables false
set_option maxRecDepth 100000
open Go.RowKit
open Go.Proofs.YtihhflajkohibaaGreatDoor
open Go.Proofs.YtihhflajkohibaaGreatDoor.Link (LE Fr EndIs)
open Go.Proofs.YtihhflajkohibaaGreatDoor.Net (NS NetIs)
/-- so many of the frames went -/
def PS.sofar (s : PS) (me : Bool) (a b : Int) (fs : List Fr) (k : Nat) : PS := { s with e := up s.e me (s.e me).gone, n := (ways a b (s.n, 0) (fs.take k)).1 }
def cnt (s : PS) (a b : Int) (fs : List Fr) (k : Nat) : Nat := (ways a b (s.n, 0) (fs.take k)).2
theorem ways_le (a b : Int) (l : List Fr) : ∀ w : NS × Nat, (ways a b w l).2 ≤ w.2 + l.length := by
  induction l with
  | nil => intro w; exact Nat.le_refl _
  | cons f l ih =>
    intro w
    have h1 := ih (way a b w f)
    have h2 : (way a b w f).2 ≤ w.2 + 1 := by unfold way; split <;> (try split) <;> simp
    show (ways a b (way a b w f) l).2 ≤ _
    rw [List.length_cons]; omega
theorem cnt_le (s : PS) (a b : Int) (fs : List Fr) (k : Nat) : cnt s a b fs k ≤ k := by
  have := ways_le a b (fs.take k) (s.n, 0)
  rw [List.length_take] at this
  unfold cnt; simp only at this; omega
def GoSt (B : Nat) (w : World) (M : PM) (p : Nat) (s : PS) (me : Bool) (a b : Int) (fs : List Fr) (G : List Nat) (A : Option Addr) (c k : Nat) (wr : World) : Prop :=
  ∃ M' : PM, Lay B M' p (s.sofar me a b fs k) [vecT G 5 A fs.length c (fs.flatMap Fr.cells)] wr ∧ Turns (flat (things M p s)) (flat (things M' p (s.sofar me a b fs k))) w wr ∧ Env B wr
section
variable {B : Nat} {w wr w' : World} {M : PM} {p : Nat} {s : PS} {me : Bool} {a b : Int} {fs : List Fr} {G : List Nat} {A : Option Addr} {c k : Nat}
theorem GoSt.after (h : GoSt B w M p s me a b fs G A c k wr) (hb : Below wr.heap.size wr w') : GoSt B w M p s me a b fs G A c k w' := by
  obtain ⟨M', h1, h2, h3⟩ := h
  exact ⟨M', h1.after hb, h2.trans (Turns.of_below hb _), h3.below (hb.mono h3.le)⟩
theorem sofar_step {f : Fr} (hf : fs[k]? = some f) : (s.sofar me a b fs (k + 1)).n = (way a b ((s.sofar me a b fs k).n, cnt s a b fs k) f).1 ∧ cnt s a b fs (k + 1) = (way a b ((s.sofar me a b fs k).n, cnt s a b fs k) f).2 := by
  unfold PS.sofar cnt
  rw [ways_step a b _ _ hf]
  exact ⟨rfl, rfl⟩
theorem GoSt.same (h : GoSt B w M p s me a b fs G A c k wr) (e : (s.sofar me a b fs (k + 1)).n = (s.sofar me a b fs k).n) : GoSt B w M p s me a b fs G A c (k + 1) wr := by
  have : s.sofar me a b fs (k + 1) = s.sofar me a b fs k := by
    unfold PS.sofar at e ⊢
    simp only at e
    rw [e]
  unfold GoSt
  rw [this]
  exact h
theorem GoSt.net {q : Nat} {n : NS} (h : ∃ M', M'.q = q ∧ Lay B M' p (s.sofar me a b fs k) [vecT G 5 A fs.length c (fs.flatMap Fr.cells)] wr ∧ Turns (flat (things M p s)) (flat (things M' p (s.sofar me a b fs k))) w wr ∧ Env B wr ∧ ∃ G', NetIs w' q G' n ∧ Turns M'.G G' wr w')
    (e : (s.sofar me a b fs (k + 1)).n = n) : GoSt B w M p s me a b fs G A c (k + 1) w' := by
  obtain ⟨M', rfl, h1, h2, h3, G', hn, ht⟩ := h
  have hs := h1.setN h3.le hn ht
  have e2 : s.sofar me a b fs (k + 1) = { s.sofar me a b fs k with n := n } := by
    unfold PS.sofar at e ⊢
    simp only at e ⊢
    rw [e]
  unfold GoSt
  rw [e2]
  exact ⟨_, hs.lay, h2.trans hs.turns, h3.below hs.below⟩
end
section
variable {B : Nat} {w : World} {p : Nat} {F : List Nat} {s : PS}
set_option maxHeartbeats 1000000 in
theorem go_no (p : Value) (n : Int) (hn : isSide n = false) (w : World) : Calls Tryz.prog 10 #[p, .int .i64 n] w fun e w' => e = .returned (.int .i64 0) ∧ w = w' := by
  go_enter Tryz.func10, Tryz.ntmps10
  go_wp2_with fail
  refine (there_no _ n hn _).mono ?_
  rintro e w1 ⟨rfl, rfl⟩
  go_wp2_with fail
  go_ret
  exact ⟨rfl, rfl⟩
set_option maxHeartbeats 4000000 in
theorem go_yes (h : PipeIs B w p F s) (hv : Env B w) (me : Bool) : Calls Tryz.prog 10 #[.pointer (some ⟨p, 0, none⟩), .int .i64 (no me)] w (ActP B w p F (s.go me) (.int .i64 ((s.gone me).2 : Int))) := by
  obtain ⟨M, rfl, hl⟩ := h.lay
  obtain ⟨m, r, hm, hr, h1, h2, hm2, hr2, hmr⟩ := no_nat me
  have y0 := (cell_of_block hl.box m).trans (show (M.cells s)[m]? = some (.pointer (some ⟨M.e me, 0, none⟩)) from by rw [← hm]; exact cells_e M s me)
  have H := Lib.hid hl
  have HV := Lib.hid hv
  have m0 : (0 : Int) ≤ (m : Int) := by omega
  have m1 : (m : Int) < 2 := by omega
  obtain ⟨fs, hfs⟩ : ∃ fs, (s.e me).goes = fs := ⟨_, rfl⟩
  have HFS := Lib.hid hfs
  have HOK := Lib.hid (h.endOk me)
  have hfl : fs.length ≤ 1000 := by rw [← hfs]; exact Link.goes_le (h.endOk me)
  have HM := Lib.hid (And.intro h1 h2)
  have HP := Lib.hid (show s.go me = s.sofar me (m : Int) (r : Int) fs fs.length ∧ (s.gone me).2 = cnt s (m : Int) (r : Int) fs fs.length from by
    unfold PS.go PS.gone PS.sofar cnt; rw [h1, h2, hfs, List.take_length]; exact ⟨rfl, rfl⟩)
  rw [h1, HP.out.1, HP.out.2]
  clear h hl hv hm hr h1 h2 hfs
  have hw1 : IntKind.i64.wrap (1 - (m : Int)) = (r : Int) := by rw [hmr]; exact IntWalk.i64_in _ (by omega)
  go_enter Tryz.func10, Tryz.ntmps10
  go_wp2_with fail
  refine (there_yes _ m hm2 _).mono ?_
  rintro e w1 ⟨rfl, rfl⟩
  go_wp2_with fail
  refine (Link.out_any (H.out.e me)).mono ?_
  rw [HFS.out]
  rintro e w2 ⟨A5, c5, G5, rfl, hv5, hG5, he, ht⟩
  have hgo : GoSt B w M p s me (m : Int) (r : Int) fs G5 A5 c5 0 w2 := by
    have hB := HV.out.le
    have k := H.out.setE hB he ht
    have hM : ({ M with F := up M.F me (M.F me) } : PM) = M := by rw [up_id]
    rw [hM] at k
    refine ⟨M, ?_, k.turns, HV.out.below k.below⟩
    have k2 := k.lay
    have h0 := H.out
    unfold Lay at k2 h0 ⊢
    rw [List.append_nil] at k2 h0
    have k3 : Sep B w2 (vecT G5 5 A5 fs.length c5 (fs.flatMap Fr.cells) :: things M p (s.sofar me (m : Int) (r : Int) fs 0)) := .cons _ _ hv5 (vecT_local _ _ _ _ _ _) (fun j hj => Nat.le_trans hB (hG5 j hj)) (fun n hn j hj hjn => by
      have hm2 : j ∈ flat (things M p s) := show j ∈ flat (things M p { s with e := up s.e me (s.e me).gone }) from flat_mem.2 ⟨n, hn, hjn⟩
      have hj' := hG5 j hj
      obtain ⟨o, ho, hjo⟩ := flat_mem.1 hm2
      have := h0.lt ho hjo
      omega) k2
    exact Sep.perm k3 (List.perm_append_singleton _ _).symm
  have HGO := Lib.hid hgo
  clear hgo hv5 hG5 he ht y0
  go_wp2_with fail
  go_loopw [5, 22] (fun n i wr => ∃ k : Nat, k ≤ fs.length ∧ i = .int .i64 (k : Int) ∧ n = .int .i64 ((cnt s (m : Int) (r : Int) fs k : Nat) : Int) ∧ GoSt B w M p s me (m : Int) (r : Int) fs G5 A5 c5 k wr) (fun _ i _ => fs.length - (intOf i).toNat)
  case atStart => exact ⟨0, Nat.zero_le _, rfl, rfl, HGO.out⟩
  case round =>
    obtain ⟨k, hk, rfl, rfl, hs⟩ := hrel
    by_cases hlt : k < fs.length
    · have hd : decide ((k : Int) < (fs.length : Int)) = true := by simp; omega
      have k0 : (0 : Int) ≤ (k : Int) := by omega
      have k1 : (k : Int) < (fs.length : Int) := by omega
      obtain ⟨f, hf⟩ : ∃ f, fs[k]? = some f := ⟨_, List.getElem?_eq_getElem hlt⟩
      have HS := Lib.hid hs
      have HF := Lib.hid hf
      obtain ⟨M1, hl1, ht1, hv1⟩ := id hs
      have hvf := Link.vec_frame (hl1.x 0 rfl)
      rcases hvf with e0 | ⟨g5, o5, hA5, _, _, hfr⟩
      · rw [e0] at hf; cases hf
      subst hA5
      obtain ⟨z0, z1, z2, z3, z4⟩ := hfr k f hf
      have HV1 := Lib.hid hv1
      clear hs hf hfr hl1 ht1 hv1 hk
      have hB1 : Below wr.heap.size wr (wr.alloc (.cells #[.int .i64 f.kind, .int .i64 f.epoch, .int .u64 f.seq, .int .u64 f.ack, .string f.body] 83)) := (Below.refl _ _).alloc (Nat.le_refl _) _
      have HSA := Lib.hid (HS.out.after hB1)
      have HVA := Lib.hid (HV1.out.below (hB1.mono HV1.out.le))
      clear hB1
      cases hr : f.right
      · have HST := Lib.hid (show (s.sofar me (m : Int) (r : Int) fs (k + 1)).n = (s.sofar me (m : Int) (r : Int) fs k).n ∧ cnt s (m : Int) (r : Int) fs (k + 1) = cnt s (m : Int) (r : Int) fs k from by
          obtain ⟨e1, e2⟩ := sofar_step (s := s) (me := me) (a := (m : Int)) (b := (r : Int)) HF.out
          rw [e1, e2]
          unfold way
          rw [if_neg (by simp [hr])]
          exact ⟨rfl, rfl⟩)
        have HR := Lib.hid hr
        clear hr
        go_wp2_with fail
        refine (Frame.Put_no f HR.out _).mono ?_
        rintro e w3 ⟨rfl, hb3⟩
        have HS3 := Lib.hid (HSA.out.after hb3)
        clear hb3 z0 z1 z2 z3 z4
        go_wp2_with fail
        go_roundw
        case rel => exact ⟨k + 1, hlt, by go_num, by rw [HST.out.2], HS3.out.same HST.out.1⟩
        case measure => simp [intOf]; omega
      · have hfit : Frame.Fits f := goes_fits HOK.out (by rw [HFS.out]; exact List.mem_of_getElem? HF.out)
        obtain ⟨S, hS⟩ : ∃ S, bytes f = S := ⟨_, rfl⟩
        have HBY := Lib.hid hS
        have HR := Lib.hid hr
        have HFT := Lib.hid hfit
        clear hr hS hfit
        go_wp2_with fail
        refine (Frame.Put_is f S HR.out HFT.out HBY.out.symm _ HVA.out.tab).mono ?_
        rintro e w3 ⟨rfl, hb3⟩
        have HS3 := Lib.hid (HSA.out.after hb3)
        clear hb3 z0 z1 z2 z3 z4
        obtain ⟨M3, hl3, ht3, hv3⟩ := HS3.out
        have y4 := (cell_of_block hl3.box 4).trans (show (M3.cells (s.sofar me (m : Int) (r : Int) fs k))[4]? = some (.pointer (some ⟨M3.q, 0, none⟩)) from rfl)
        have HL3 := Lib.hid (And.intro hl3 (And.intro ht3 hv3))
        clear hl3 ht3 hv3
        obtain ⟨ok, hok⟩ : ∃ ok, (s.sofar me (m : Int) (r : Int) fs k).n.sendOk (m : Int) (r : Int) = ok := ⟨_, rfl⟩
        have HSO := Lib.hid hok
        clear hok
        go_wp2_with fail
        refine (Net.send_any HL3.out.1.n (m : Int) (r : Int) S).mono ?_
        rw [HSO.out]
        rintro e w4 ⟨rfl, G', hn, ht⟩
        have HS4 := Lib.hid (GoSt.net (s := s) (me := me) (a := (m : Int)) (b := (r : Int)) (fs := fs) (k := k) (w := w) (M := M) (A := some ⟨g5, o5, none⟩) (c := c5) (G := G5) ⟨M3, rfl, HL3.out.1, HL3.out.2.1, HL3.out.2.2, G', hn, ht⟩ (by
          rw [(sofar_step (s := s) (me := me) (a := (m : Int)) (b := (r : Int)) HF.out).1]
          unfold way
          rw [if_pos HR.out, HBY.out]))
        have HCN := Lib.hid (show cnt s (m : Int) (r : Int) fs (k + 1) = if ok = true then cnt s (m : Int) (r : Int) fs k + 1 else cnt s (m : Int) (r : Int) fs k from by
          rw [(sofar_step (s := s) (me := me) (a := (m : Int)) (b := (r : Int)) HF.out).2]
          unfold way
          rw [if_pos HR.out, HSO.out])
        clear hn ht
        cases ok
        · go_wp2_with fail
          go_roundw
          case rel => exact ⟨k + 1, hlt, by go_num, by rw [HCN.out]; simp, HS4.out⟩
          case measure => simp [intOf]; omega
        · have hcl : cnt s (m : Int) (r : Int) fs k ≤ 1000 := Nat.le_trans (cnt_le s _ _ fs k) (by omega)
          generalize cnt s (m : Int) (r : Int) fs k = cn at *
          go_wp2_with fail
          go_roundw
          case rel => exact ⟨k + 1, hlt, by go_num, by rw [HCN.out]; simp, HS4.out⟩
          case measure => simp [intOf]; omega
    · have hk2 : k = fs.length := by omega
      have hd : decide ((k : Int) < (fs.length : Int)) = false := by simp; omega
      have HS := Lib.hid hs
      have HK := Lib.hid hk2
      clear hs hk2
      go_wp2_with fail
      go_ret
      obtain ⟨M2, h1, h2, _⟩ := HS.out
      rw [← HK.out]
      unfold Lay at h1
      refine ⟨rfl, _, ⟨M2, rfl, ?_⟩, h2⟩
      exact (Sep.perm h1 (List.perm_append_singleton _ _)).tail
end
end Go.Proofs.YtihhflajkohibaaGreatDoor.Pipe
/- Layer 10: what is on its way comes to a side. Conditions: the pipe lies (PipeIs); the program's variables are as they were laid (Env); all that is on its way is short. -/
namespace Go.Proofs.YtihhflajkohibaaGreatDoor.Pipe
set_option linter.unusedSimpArgs false
set_option linter.unusedVariables false
set_option maxRecDepth 100000
open Go.RowKit
open Go.Proofs.YtihhflajkohibaaGreatDoor
open Go.Proofs.YtihhflajkohibaaGreatDoor.Link (LE Fr EndIs)
open Go.Proofs.YtihhflajkohibaaGreatDoor.Net (NS NetIs)
section
variable {B : Nat} {w : World} {p : Nat} {F : List Nat} {s : PS}
set_option maxHeartbeats 1000000 in
theorem come_no (p : Value) (n : Int) (hn : isSide n = false) (k : Int) (w : World) : Calls Tryz.prog 14 #[p, .int .i64 n, .int .i64 k] w fun e w' => e = .returned (.tuple #[.string ⟨#[]⟩, .bool false]) ∧ w = w' := by
  go_enter Tryz.func14, Tryz.ntmps14
  go_wp2_with fail
  refine (there_no _ n hn _).mono ?_
  rintro e w1 ⟨rfl, rfl⟩
  go_wp2_with fail
  go_ret2
  exact ⟨rfl, rfl⟩
set_option maxHeartbeats 8000000 in
theorem come_yes (h : PipeIs B w p F s) (hv : Env B w) (hsh : Short s.n) (me : Bool) (hg : (s.g me).length ≤ 1000000) (k : Int) : Calls Tryz.prog 14 #[.pointer (some ⟨p, 0, none⟩), .int .i64 (no me), .int .i64 k] w (ActP B w p F (s.come me k) (.tuple #[.string (s.comeS me k), .bool (s.comeB me k)])) := by
  obtain ⟨M, rfl, hl⟩ := h.lay
  obtain ⟨m, r, hm, hr, h1, h2, hm2, hr2, hmr⟩ := no_nat me
  obtain ⟨i0, hi0, hz0, hz1, hz2⟩ := info_parts Link.str_info
  have y4 := (cell_of_block hl.box 4).trans (show (M.cells s)[4]? = some (.pointer (some ⟨M.q, 0, none⟩)) from rfl)
  have m0 : (0 : Int) ≤ (m : Int) := by omega
  have m1 : (m : Int) < 2 := by omega
  have HNOW := Lib.hid (Now.start hl hv)
  have HTM := Lib.hid hm
  obtain ⟨S, hS⟩ : ∃ S, s.look me k = S := ⟨_, rfl⟩
  obtain ⟨ok, hok⟩ : ∃ ok, s.has me k = ok := ⟨_, rfl⟩
  have HLK := Lib.hid (show s.n.look (r : Int) (m : Int) k = S ∧ s.n.isAt (r : Int) (m : Int) k = ok ∧ s.lose me k = { s with n := s.n.deliver (r : Int) (m : Int) k } from by
    rw [← h1, ← h2]; exact ⟨hS, hok, rfl⟩)
  have HSZ := Lib.hid (show S.size ≤ maxLen from by
    have : (s.look me k).size ≤ 100 := hsh.look _ _ _
    rw [hS] at this
    unfold maxLen; omega)
  have HDEF := Lib.hid (show s.frameB me k = (ok && decide ((Frame.why S.data.toList).2 = 0)) ∧ s.frame me k = Frame.get S.data.toList from by
    unfold PS.frameB PS.frame; rw [hS, hok]; exact ⟨rfl, rfl⟩)
  have HG := Lib.hid hg
  have hw1 : IntKind.i64.wrap (1 - (m : Int)) = (r : Int) := by rw [hmr]; exact IntWalk.i64_in _ (by omega)
  rw [h1]
  clear h hl hv hm hr h1 h2 hsh hS hok hg
  go_enter Tryz.func14, Tryz.ntmps14
  go_wp2_with fail
  refine (there_yes _ m hm2 _).mono ?_
  rintro e w1 ⟨rfl, rfl⟩
  go_wp2_with fail
  refine (Net.deliver_any HNOW.out.lay.n (r : Int) (m : Int) k).mono ?_
  rw [HLK.out.1, HLK.out.2.1]
  rintro e w2 ⟨rfl, G', hn, ht⟩
  have hnow2 := HNOW.out.step (HNOW.out.lay.setN HNOW.out.env.le hn ht)
  have hnow3 : Now B w M p s [] { M with G := G' } (s.lose me k) w2 := by rw [HLK.out.2.2]; exact hnow2
  have HN2 := Lib.hid hnow3
  clear hn ht hnow2 hnow3
  cases ok
  · have hfr : s.frameB me k = false := by rw [HDEF.out.1]; rfl
    have HE := Lib.hid (show s.come me k = s.lose me k ∧ s.comeS me k = ⟨#[]⟩ ∧ s.comeB me k = false from by
      unfold PS.come PS.comeS PS.comeB; rw [hfr]; exact ⟨rfl, rfl, rfl⟩)
    clear hfr y4
    go_wp2_with fail
    go_ret2
    show ActP _ _ _ _ _ _ (.returned (.tuple #[.string ⟨#[]⟩, .bool false])) _
    rw [HE.out.1, HE.out.2.1, HE.out.2.2]
    exact HN2.out.is _
  · obtain ⟨f, hf⟩ : ∃ f, Frame.get S.data.toList = f := ⟨_, rfl⟩
    obtain ⟨E, hE⟩ : ∃ E, (Frame.why S.data.toList).2 = E := ⟨_, rfl⟩
    have HFE := Lib.hid (And.intro hf hE)
    clear hf hE y4
    go_wp2_with fail
    refine (Frame.Get_is S f E _ HSZ.out HFE.out.1.symm HFE.out.2.symm HN2.out.env.tab HN2.out.env.err).mono ?_
    rintro e w3 ⟨rfl, hb3⟩
    have HN3 := Lib.hid (HN2.out.after hb3)
    rw [show f.val = .agg #[.int .i64 f.kind, .int .i64 f.epoch, .int .u64 f.seq, .int .u64 f.ack, .string f.body] from rfl]
    clear hb3
    by_cases hE : E = 0
    · have he : (E != 0) = false := by simp [hE]
      have hfr : s.frameB me k = true := by rw [HDEF.out.1, HFE.out.2, hE]; rfl
      have hsf : s.frame me k = f := by rw [HDEF.out.2, HFE.out.1]
      obtain ⟨td, htd⟩ : ∃ td, (s.e me).told f = td := ⟨_, rfl⟩
      obtain ⟨nx, hnx⟩ : ∃ nx, (s.e me).isNext f = nx := ⟨_, rfl⟩
      have HTD := Lib.hid (And.intro htd hnx)
      have HE := Lib.hid (show s.come me k = (s.lose me k).take me f ∧ s.comeS me k = td ∧ s.comeB me k = nx from by
        unfold PS.come PS.comeS PS.comeB; rw [hfr, hsf, htd, hnx]; exact ⟨rfl, rfl, rfl⟩)
      have hba : Below w3.heap.size w3 (w3.alloc (.cells #[.int .i64 f.kind, .int .i64 f.epoch, .int .u64 f.seq, .int .u64 f.ack, .string f.body] 83)) := (Below.refl _ _).alloc (Nat.le_refl _) _
      have HN4 := Lib.hid (HN3.out.more (o := boxT w3.heap.size #[.int .i64 f.kind, .int .i64 f.epoch, .int .u64 f.seq, .int .u64 f.ack, .string f.body] 83) hba (heap_alloc_new w3 _) (boxT_local _ _ _) (fun k hk => by simp [boxT] at hk; omega))
      obtain ⟨C, hC⟩ : ∃ C, ({ M with G := G' } : PM).cells (s.lose me k) = C := ⟨_, rfl⟩
      have HC := Lib.hid hC
      have HCE := Lib.hid (show C[m]? = some (.pointer (some ⟨M.e me, 0, none⟩)) from by rw [← hC, ← HTM.out]; exact cells_e { M with G := G' } (s.lose me k) me)
      have HCG := Lib.hid (show C[2 + m]? = some (sl (M.g me) (s.g me).length) from by rw [← hC, ← HTM.out]; exact cells_g { M with G := G' } (s.lose me k) me)
      have hbx := HN4.out.lay.box
      rw [hC] at hbx
      have HBX := Lib.hid (show (w3.alloc (.cells #[.int .i64 f.kind, .int .i64 f.epoch, .int .u64 f.seq, .int .u64 f.ack, .string f.body] 83)).heap[p]? = some (.cells C 70 (0, 0)) ∧ (w3.alloc (.cells #[.int .i64 f.kind, .int .i64 f.epoch, .int .u64 f.seq, .int .u64 f.ack, .string f.body] 83)).heap[w3.heap.size]? = some (.cells #[.int .i64 f.kind, .int .i64 f.epoch, .int .u64 f.seq, .int .u64 f.ack, .string f.body] 83 (0, 0)) from ⟨hbx, heap_alloc_new w3 _⟩)
      clear hE hfr hsf htd hnx hba hC hbx
      go_wp2_with fail
      refine' wp_flow [only 0 _, only 1 _, only 2 _, only 3 _, only 4 _, only 5 (.pointer (some ⟨M.e me, 0, none⟩)), only 6 (.agg #[.int .i64 f.kind, .int .i64 f.epoch, .int .u64 f.seq, .int .u64 f.ack, .string f.body]), (fun us v => us 7 = .tuple #[.string td, .bool nx] ∧ ∃ F', Now B w M p s [boxT w3.heap.size #[.int .i64 f.kind, .int .i64 f.epoch, .int .u64 f.seq, .int .u64 f.ack, .string f.body] 83] { M with F := up M.F me F', G := G' } { s.lose me k with e := up s.e me ((s.e me).taken f) } v), only 8 (.tuple #[.string td, .bool nx]), only 9 (.string td), only 10 (.bool nx), only 11 (.string td), only 12 (.bool nx), (fun _ v => Now B w M p s [boxT w3.heap.size #[.int .i64 f.kind, .int .i64 f.epoch, .int .u64 f.seq, .int .u64 f.ack, .string f.body] 83] { M with G := G' } (s.lose me k) v)] (fun v => v.heap[p]? = some (.cells C 70 (0, 0)) ∧ v.heap[w3.heap.size]? = some (.cells #[.int .i64 f.kind, .int .i64 f.epoch, .int .u64 f.seq, .int .u64 f.ack, .string f.body] 83 (0, 0))) [[], [], [0], [2], [1, 3], [4], [], [5, 6, 13], [7], [8], [8], [9], [10]] [[], [], [], [], [], [], [], [13], [], [], [], [], []] [[], [], [], [], [], [], [], [], [], [], [], [], []] [[13], [13], [13], [13], [13], [13], [13], [], [7], [7], [7], [7], [7]] [7, 13] [0, 0, 1, 5, 15, 31, 0, 127, 255, 511, 511, 1023, 1535] _ (fun us => ?hfr) (by kernel_rfl) (by kernel_rfl) (by kernel_rfl) ⟨only_still _, only_still _, only_still _, only_still _, only_still _, only_still _, only_still _, trivial, only_still _, only_still _, only_still _, only_still _, only_still _, trivial, trivial⟩ (by exact HBX.out) (by simp) (by exact HN4.out.after (below_drewN (Below.refl _ _) 1)) ?hst ?hla
      case hfr => (simp only [List.cons_append, List.nil_append, putAll, Act.put, List.setIfInBounds_toArray, List.set_cons_zero, List.set_cons_succ, Nat.reduceAdd]; rfl)
      case hst =>
        refine ⟨?_, ?_, ?_, ?_, ?_, ?_, ?_, ?_, ?_, ?_, ?_, ?_, ?_, trivial⟩
        · intro us v hR hn ho K hK
          clear ho
          have y0 := (cell_of_block hR.1 m).trans HCE.out; have z0 := cell_of_block hR.2 0; have z1 := cell_of_block hR.2 1; have z2 := cell_of_block hR.2 2; have z3 := cell_of_block hR.2 3; have z4 := cell_of_block hR.2 4; simp at z0 z1 z2 z3 z4
          rw [if_pos (by rfl)]
          go_simp
          refine hK _ _ _ (by simp only [Act.put, List.setIfInBounds_toArray, List.set_cons_zero, List.set_cons_succ, Nat.reduceAdd] <;> rfl) ?_ hR ⟨fun h => h, trivial⟩
          refine only_mk (v := v) ?_
          with_reducible rfl
        · intro us v hR hn ho K hK
          clear ho
          have y0 := (cell_of_block hR.1 m).trans HCE.out; have z0 := cell_of_block hR.2 0; have z1 := cell_of_block hR.2 1; have z2 := cell_of_block hR.2 2; have z3 := cell_of_block hR.2 3; have z4 := cell_of_block hR.2 4; simp at z0 z1 z2 z3 z4
          rw [if_pos (by rfl)]
          go_simp
          refine hK _ _ _ (by simp only [Act.put, List.setIfInBounds_toArray, List.set_cons_zero, List.set_cons_succ, Nat.reduceAdd] <;> rfl) ?_ hR ⟨fun h => h, trivial⟩
          refine only_mk (v := v) ?_
          with_reducible rfl
        · intro us v hR hn ho K hK
          obtain ⟨n0, -⟩ := hn
          have n0 : us 0 = _ := n0
          clear ho
          have y0 := (cell_of_block hR.1 m).trans HCE.out; have z0 := cell_of_block hR.2 0; have z1 := cell_of_block hR.2 1; have z2 := cell_of_block hR.2 2; have z3 := cell_of_block hR.2 3; have z4 := cell_of_block hR.2 4; simp at z0 z1 z2 z3 z4
          rw [if_pos (by rfl)]
          go_simp
          refine hK _ _ _ (by simp only [Act.put, List.setIfInBounds_toArray, List.set_cons_zero, List.set_cons_succ, Nat.reduceAdd, n0] <;> rfl) ?_ hR ⟨fun h => h, trivial⟩
          refine only_mk (v := v) ?_
          with_reducible rfl
        · intro us v hR hn ho K hK
          obtain ⟨n2, -⟩ := hn
          have n2 : us 2 = _ := n2
          clear ho
          have y0 := (cell_of_block hR.1 m).trans HCE.out; have z0 := cell_of_block hR.2 0; have z1 := cell_of_block hR.2 1; have z2 := cell_of_block hR.2 2; have z3 := cell_of_block hR.2 3; have z4 := cell_of_block hR.2 4; simp at z0 z1 z2 z3 z4
          rw [if_pos (by rfl)]
          go_simp
          refine hK _ _ _ (by simp only [Act.put, List.setIfInBounds_toArray, List.set_cons_zero, List.set_cons_succ, Nat.reduceAdd, n2] <;> rfl) ?_ hR ⟨fun h => h, trivial⟩
          refine only_mk (v := v) ?_
          with_reducible rfl
        · intro us v hR hn ho K hK
          obtain ⟨n1, n3, -⟩ := hn
          have n1 : us 1 = _ := n1
          have n3 : us 3 = _ := n3
          clear ho
          have y0 := (cell_of_block hR.1 m).trans HCE.out; have z0 := cell_of_block hR.2 0; have z1 := cell_of_block hR.2 1; have z2 := cell_of_block hR.2 2; have z3 := cell_of_block hR.2 3; have z4 := cell_of_block hR.2 4; simp at z0 z1 z2 z3 z4
          rw [if_pos (by rfl)]
          go_simp
          refine hK _ _ _ (by simp only [Act.put, List.setIfInBounds_toArray, List.set_cons_zero, List.set_cons_succ, Nat.reduceAdd, n1, n3] <;> rfl) ?_ hR ⟨fun h => h, trivial⟩
          refine only_mk (v := v) ?_
          with_reducible rfl
        · intro us v hR hn ho K hK
          obtain ⟨n4, -⟩ := hn
          have n4 : us 4 = _ := n4
          clear ho
          have y0 := (cell_of_block hR.1 m).trans HCE.out; have z0 := cell_of_block hR.2 0; have z1 := cell_of_block hR.2 1; have z2 := cell_of_block hR.2 2; have z3 := cell_of_block hR.2 3; have z4 := cell_of_block hR.2 4; simp at z0 z1 z2 z3 z4
          rw [if_pos (by rfl)]
          go_simp
          refine hK _ _ _ (by simp only [Act.put, List.setIfInBounds_toArray, List.set_cons_zero, List.set_cons_succ, Nat.reduceAdd, n4] <;> rfl) ?_ hR ⟨fun h => h, trivial⟩
          refine only_mk (v := v) ?_
          with_reducible rfl
        · intro us v hR hn ho K hK
          clear ho
          have y0 := (cell_of_block hR.1 m).trans HCE.out; have z0 := cell_of_block hR.2 0; have z1 := cell_of_block hR.2 1; have z2 := cell_of_block hR.2 2; have z3 := cell_of_block hR.2 3; have z4 := cell_of_block hR.2 4; simp at z0 z1 z2 z3 z4
          rw [if_pos (by rfl)]
          go_simp
          refine hK _ _ _ (by simp only [Act.put, List.setIfInBounds_toArray, List.set_cons_zero, List.set_cons_succ, Nat.reduceAdd] <;> rfl) ?_ hR ⟨fun h => h, trivial⟩
          refine only_mk (v := v) ?_
          with_reducible rfl
        · intro us v hR hn ho K hK
          obtain ⟨n5, n6, ns, -⟩ := hn
          have n5 : us 5 = _ := n5
          have n6 : us 6 = _ := n6
          clear ho
          have y0 := (cell_of_block hR.1 m).trans HCE.out; have z0 := cell_of_block hR.2 0; have z1 := cell_of_block hR.2 1; have z2 := cell_of_block hR.2 2; have z3 := cell_of_block hR.2 3; have z4 := cell_of_block hR.2 4; simp at z0 z1 z2 z3 z4
          rw [if_pos (by rfl)]
          clear y0 z0 z1 z2 z3 z4
          go_simp
          refine (Link.take_any (ns.lay.e me) f).mono ?_
          rw [show ((s.lose me k).e me).told f = td from HTD.out.1, show ((s.lose me k).e me).isNext f = nx from HTD.out.2]
          rintro e v' ⟨rfl, he, ht⟩
          dsimp only
          have hs := ns.step (ns.lay.setE ns.env.le he ht)
          have hbx := hs.lay.box
          exact hK _ _ _ (by simp only [Act.put, List.setIfInBounds_toArray, List.set_cons_zero, List.set_cons_succ, Nat.reduceAdd, n5, n6] <;> rfl) ⟨rfl, _, hs⟩ ⟨by rw [← HC.out]; exact hbx, hs.lay.x 0 rfl⟩ trivial
        · intro us v hR hn ho K hK
          obtain ⟨n7, -⟩ := hn
          clear ho
          have y0 := (cell_of_block hR.1 m).trans HCE.out; have z0 := cell_of_block hR.2 0; have z1 := cell_of_block hR.2 1; have z2 := cell_of_block hR.2 2; have z3 := cell_of_block hR.2 3; have z4 := cell_of_block hR.2 4; simp at z0 z1 z2 z3 z4
          obtain ⟨e7, r7⟩ := n7
          rw [if_pos (by rfl)]
          go_simp
          refine hK _ _ _ (by simp only [Act.put, List.setIfInBounds_toArray, List.set_cons_zero, List.set_cons_succ, Nat.reduceAdd, e7] <;> rfl) ?_ hR ⟨fun h => h, trivial⟩
          exact only_mk (v := v) rfl
        · intro us v hR hn ho K hK
          obtain ⟨n8, -⟩ := hn
          have n8 : us 8 = _ := n8
          clear ho
          have y0 := (cell_of_block hR.1 m).trans HCE.out; have z0 := cell_of_block hR.2 0; have z1 := cell_of_block hR.2 1; have z2 := cell_of_block hR.2 2; have z3 := cell_of_block hR.2 3; have z4 := cell_of_block hR.2 4; simp at z0 z1 z2 z3 z4
          rw [if_pos (by rfl)]
          go_simp
          refine hK _ _ _ (by simp only [Act.put, List.setIfInBounds_toArray, List.set_cons_zero, List.set_cons_succ, Nat.reduceAdd, n8] <;> rfl) ?_ hR ⟨fun h => h, trivial⟩
          refine only_mk (v := v) ?_
          with_reducible rfl
        · intro us v hR hn ho K hK
          obtain ⟨n8, -⟩ := hn
          have n8 : us 8 = _ := n8
          clear ho
          have y0 := (cell_of_block hR.1 m).trans HCE.out; have z0 := cell_of_block hR.2 0; have z1 := cell_of_block hR.2 1; have z2 := cell_of_block hR.2 2; have z3 := cell_of_block hR.2 3; have z4 := cell_of_block hR.2 4; simp at z0 z1 z2 z3 z4
          rw [if_pos (by rfl)]
          go_simp
          refine hK _ _ _ (by simp only [Act.put, List.setIfInBounds_toArray, List.set_cons_zero, List.set_cons_succ, Nat.reduceAdd, n8] <;> rfl) ?_ hR ⟨fun h => h, trivial⟩
          refine only_mk (v := v) ?_
          with_reducible rfl
        · intro us v hR hn ho K hK
          obtain ⟨n9, -⟩ := hn
          have n9 : us 9 = _ := n9
          clear ho
          have y0 := (cell_of_block hR.1 m).trans HCE.out; have z0 := cell_of_block hR.2 0; have z1 := cell_of_block hR.2 1; have z2 := cell_of_block hR.2 2; have z3 := cell_of_block hR.2 3; have z4 := cell_of_block hR.2 4; simp at z0 z1 z2 z3 z4
          rw [if_pos (by rfl)]
          go_simp
          refine hK _ _ _ (by simp only [Act.put, List.setIfInBounds_toArray, List.set_cons_zero, List.set_cons_succ, Nat.reduceAdd, n9] <;> rfl) ?_ hR ⟨fun h => h, trivial⟩
          refine only_mk (v := v) ?_
          with_reducible rfl
        · intro us v hR hn ho K hK
          obtain ⟨n10, -⟩ := hn
          have n10 : us 10 = _ := n10
          clear ho
          have y0 := (cell_of_block hR.1 m).trans HCE.out; have z0 := cell_of_block hR.2 0; have z1 := cell_of_block hR.2 1; have z2 := cell_of_block hR.2 2; have z3 := cell_of_block hR.2 3; have z4 := cell_of_block hR.2 4; simp at z0 z1 z2 z3 z4
          rw [if_pos (by rfl)]
          go_simp
          refine hK _ _ _ (by simp only [Act.put, List.setIfInBounds_toArray, List.set_cons_zero, List.set_cons_succ, Nat.reduceAdd, n10] <;> rfl) ?_ hR ⟨fun h => h, trivial⟩
          refine only_mk (v := v) ?_
          with_reducible rfl
      case hla =>
        intro us v hR hl
        obtain ⟨n0, n1, n2, n3, n4, n5, n6, n7, n8, n9, n10, n11, n12, -⟩ := need_last hl [0, 1, 2, 3, 4, 5, 6, 7, 8, 9, 10, 11, 12] (by kernel_rfl)
        have n0 : us 0 = _ := n0
        have n1 : us 1 = _ := n1
        have n2 : us 2 = _ := n2
        have n3 : us 3 = _ := n3
        have n4 : us 4 = _ := n4
        have n5 : us 5 = _ := n5
        have n6 : us 6 = _ := n6
        have n8 : us 8 = _ := n8
        have n9 : us 9 = _ := n9
        have n10 : us 10 = _ := n10
        have n11 : us 11 = _ := n11
        have n12 : us 12 = _ := n12
        have y0 := (cell_of_block hR.1 m).trans HCE.out; have z0 := cell_of_block hR.2 0; have z1 := cell_of_block hR.2 1; have z2 := cell_of_block hR.2 2; have z3 := cell_of_block hR.2 3; have z4 := cell_of_block hR.2 4; simp at z0 z1 z2 z3 z4
        simp only [n0, n1, n2, n3, n4, n5, n6, n8, n9, n10, n11, n12]
        clear hl n0 n1 n2 n3 n4 n5 n6 n8 n9 n10 n11 n12
        obtain ⟨e7, F', hn7⟩ := n7
        simp only [e7]
        have HN7 := Lib.hid hn7
        clear e7 hn7 hR y0 z0 z1 z2 z3 z4
        cases nx
        · have HE2 := Lib.hid (show (s.lose me k).take me f = { s.lose me k with e := up s.e me ((s.e me).taken f) } from by
            unfold PS.take
            rw [show ((s.lose me k).e me).isNext f = false from HTD.out.2]
            simp only [Bool.false_eq_true, if_false, up_id]
            rfl)
          go_wp2_with fail
          go_ret2
          show ActP _ _ _ _ _ _ (.returned (.tuple #[.string td, .bool false])) _
          rw [HE.out.1, HE.out.2.1, HE.out.2.2, HE2.out]
          exact HN7.out.is _
        · obtain ⟨ys, hys⟩ : ∃ ys, s.g me ++ [td] = ys := ⟨_, rfl⟩
          have HYS := Lib.hid hys
          have HYL := Lib.hid (show (s.g me).length + 1 = ys.length from by rw [← hys]; simp)
          have HYM := Lib.hid (show (s.g me).map Value.string ++ [.string td] = ys.map .string from by rw [← hys]; simp)
          have HE2 := Lib.hid (show (s.lose me k).take me f = { s.lose me k with e := up s.e me ((s.e me).taken f), g := up s.g me ys } from by
            unfold PS.take
            rw [show ((s.lose me k).e me).isNext f = true from HTD.out.2, show ((s.lose me k).e me).told f = td from HTD.out.1]
            simp only [if_true]
            rw [← hys]; rfl)
          clear hys
          go_wp2_with fail
          refine' wp_flow [only 0 _, only 1 _, only 2 _, only 3 _, only 4 _, only 5 _, only 6 _, only 7 (.slice (M.g me).A (s.g me).length (M.g me).c), only 8 _, (fun us v => ∃ g, us 9 = .slice (some ⟨g, 0, none⟩) 1 1 ∧ v.heap[g]? = some (.cells #[.string td] 9 (0, 0))), (fun us v => ∃ arr : Arr, us 10 = sl arr ys.length ∧ Mid B w M p s [boxT w3.heap.size #[.int .i64 f.kind, .int .i64 f.epoch, .int .u64 f.seq, .int .u64 f.ack, .string f.body] 83] { M with F := up M.F me F', G := G' } { s.lose me k with e := up s.e me ((s.e me).taken f) } me arr ys v), only 11 _, only 12 _, only 13 _, (fun _ v => ∃ M3, Now B w M p s [boxT w3.heap.size #[.int .i64 f.kind, .int .i64 f.epoch, .int .u64 f.seq, .int .u64 f.ack, .string f.body] 83] M3 { s.lose me k with e := up s.e me ((s.e me).taken f), g := up s.g me ys } v), (fun _ v => Now B w M p s [boxT w3.heap.size #[.int .i64 f.kind, .int .i64 f.epoch, .int .u64 f.seq, .int .u64 f.ack, .string f.body] 83] { M with F := up M.F me F', G := G' } { s.lose me k with e := up s.e me ((s.e me).taken f) } v)] (fun _ => True) [[], [], [], [], [2], [4], [3, 5], [6, 15], [], [8], [7, 9, 15], [0], [11], [1, 12], [10, 13]] [[], [], [], [], [], [], [], [], [], [], [9, 15], [], [], [], [10]] [[], [], [], [], [], [], [], [], [], [], [], [], [], [], []] [[9, 10, 15], [9, 10, 15], [9, 15], [9, 15], [9, 15], [9, 15], [9, 15], [9, 15], [15], [15], [], [9, 10, 15], [9, 10, 15], [9, 10, 15], []] [9, 10, 14, 15] [0, 0, 0, 0, 4, 20, 60, 124, 0, 256, 1020, 1, 2049, 6147, 16383] _ (fun us => ?hfr) (by kernel_rfl) (by kernel_rfl) (by kernel_rfl) ⟨only_still _, only_still _, only_still _, only_still _, only_still _, only_still _, only_still _, only_still _, only_still _, trivial, trivial, only_still _, only_still _, only_still _, trivial, trivial, trivial⟩ (trivial) (by simp) (by exact HN7.out.after (below_drewN (Below.refl _ _) 1)) ?hst ?hla
          case hfr => (simp only [List.cons_append, List.nil_append, putAll, Act.put, List.setIfInBounds_toArray, List.set_cons_zero, List.set_cons_succ, Nat.reduceAdd]; rfl)
          case hst =>
            refine ⟨?_, ?_, ?_, ?_, ?_, ?_, ?_, ?_, ?_, ?_, ?_, ?_, ?_, ?_, ?_, trivial⟩
            · intro us v hR hn ho K hK
              clear ho
              skip
              rw [if_pos (by rfl)]
              go_simp
              refine hK _ _ _ (by simp only [Act.put, List.setIfInBounds_toArray, List.set_cons_zero, List.set_cons_succ, Nat.reduceAdd] <;> rfl) ?_ hR ⟨fun h => h, fun h => h, fun h => h, trivial⟩
              refine only_mk (v := v) ?_
              with_reducible rfl
            · intro us v hR hn ho K hK
              clear ho
              skip
              rw [if_pos (by rfl)]
              go_simp
              refine hK _ _ _ (by simp only [Act.put, List.setIfInBounds_toArray, List.set_cons_zero, List.set_cons_succ, Nat.reduceAdd] <;> rfl) ?_ hR ⟨fun h => h, fun h => h, fun h => h, trivial⟩
              refine only_mk (v := v) ?_
              with_reducible rfl
            · intro us v hR hn ho K hK
              clear ho
              skip
              rw [if_pos (by rfl)]
              go_simp
              refine hK _ _ _ (by simp only [Act.put, List.setIfInBounds_toArray, List.set_cons_zero, List.set_cons_succ, Nat.reduceAdd] <;> rfl) ?_ hR ⟨fun h => h, fun h => h, trivial⟩
              refine only_mk (v := v) ?_
              with_reducible rfl
            · intro us v hR hn ho K hK
              clear ho
              skip
              rw [if_pos (by rfl)]
              go_simp
              refine hK _ _ _ (by simp only [Act.put, List.setIfInBounds_toArray, List.set_cons_zero, List.set_cons_succ, Nat.reduceAdd] <;> rfl) ?_ hR ⟨fun h => h, fun h => h, trivial⟩
              refine only_mk (v := v) ?_
              with_reducible rfl
            · intro us v hR hn ho K hK
              obtain ⟨n2, -⟩ := hn
              have n2 : us 2 = _ := n2
              clear ho
              skip
              rw [if_pos (by rfl)]
              go_simp
              refine hK _ _ _ (by simp only [Act.put, List.setIfInBounds_toArray, List.set_cons_zero, List.set_cons_succ, Nat.reduceAdd, n2] <;> rfl) ?_ hR ⟨fun h => h, fun h => h, trivial⟩
              refine only_mk (v := v) ?_
              with_reducible rfl
            · intro us v hR hn ho K hK
              obtain ⟨n4, -⟩ := hn
              have n4 : us 4 = _ := n4
              clear ho
              skip
              rw [if_pos (by rfl)]
              go_simp
              refine hK _ _ _ (by simp only [Act.put, List.setIfInBounds_toArray, List.set_cons_zero, List.set_cons_succ, Nat.reduceAdd, n4] <;> rfl) ?_ hR ⟨fun h => h, fun h => h, trivial⟩
              refine only_mk (v := v) ?_
              with_reducible rfl
            · intro us v hR hn ho K hK
              obtain ⟨n3, n5, -⟩ := hn
              have n3 : us 3 = _ := n3
              have n5 : us 5 = _ := n5
              clear ho
              skip
              rw [if_pos (by rfl)]
              go_simp
              refine hK _ _ _ (by simp only [Act.put, List.setIfInBounds_toArray, List.set_cons_zero, List.set_cons_succ, Nat.reduceAdd, n3, n5] <;> rfl) ?_ hR ⟨fun h => h, fun h => h, trivial⟩
              refine only_mk (v := v) ?_
              with_reducible rfl
            · intro us v hR hn ho K hK
              obtain ⟨n6, ns, -⟩ := hn
              have n6 : us 6 = _ := n6
              clear ho
              skip
              have y0 := (cell_of_block ns.lay.box (2 + m)).trans (show _ from (congrArg (fun C : Array Value => C[2 + m]?) HC.out).trans HCG.out)
              unfold sl at y0
              rw [if_pos (by rfl)]
              go_simp
              refine hK _ _ _ (by simp only [Act.put, List.setIfInBounds_toArray, List.set_cons_zero, List.set_cons_succ, Nat.reduceAdd, n6] <;> rfl) ?_ hR ⟨fun h => h, fun h => h, trivial⟩
              refine only_mk (v := v) ?_
              with_reducible rfl
            · intro us v hR hn ho K hK
              clear ho
              skip
              rw [if_pos (by rfl)]
              go_simp
              refine hK _ _ _ (by simp only [Act.put, List.setIfInBounds_toArray, List.set_cons_zero, List.set_cons_succ, Nat.reduceAdd] <;> rfl) ?_ hR ⟨fun h => h, trivial⟩
              refine only_mk (v := v) ?_
              with_reducible rfl
            · intro us v hR hn ho K hK
              obtain ⟨n8, -⟩ := hn
              have n8 : us 8 = _ := n8
              clear ho
              skip
              rw [if_pos (by rfl)]
              go_simp
              exact hK _ _ _ (by simp only [Act.put, List.setIfInBounds_toArray, List.set_cons_zero, List.set_cons_succ, Nat.reduceAdd, n8] <;> rfl) ⟨_, rfl, heap_alloc_new v _⟩ trivial ⟨fun h => h.after ((Below.refl _ _).alloc (Nat.le_refl _) _), trivial⟩
            · intro us v hR hn ho K hK
              obtain ⟨n7, n9, ns, -⟩ := hn
              have n7 : us 7 = _ := n7
              clear ho
              skip
              obtain ⟨g9, n9, hg9⟩ := n9
              refine step_append_vec _ (by rfl) (.tmp 57) (.tmp 59) 28 28 (by rfl) 9 i0 _ 1 16 Tryz.underlying28 hi0 hz0 hz1 hz2 rfl (M.g me).F (M.g me).A (s.g me).length (M.g me).c ((s.g me).map .string) (.slice (some ⟨g9, 0, none⟩) 1 1) 1 [.string td] n7 n9 (ns.lay.g me) (src_new _ Tryz.underlying28 [.string td] 1 1 1 rfl (by simp [Value.oneCell']) _ hg9) (by have := HG.out; unfold maxLen; omega) (by have := HG.out; omega) ?_
              intro v' w5 happ
              rw [HYL.out, HYM.out] at happ
              obtain ⟨F6, A6, c6, rfl, hv6, ht6⟩ := happ.all
              have hm := ns.grow (me := me) (a := ⟨A6, c6, F6⟩) (l := ys) hv6 ht6
              exact hK _ _ _ (by simp only [Act.put, List.setIfInBounds_toArray, List.set_cons_zero, List.set_cons_succ, Nat.reduceAdd, n7, n7, n9] <;> rfl) ⟨⟨A6, c6, F6⟩, rfl, hm⟩ trivial trivial
            · intro us v hR hn ho K hK
              obtain ⟨n0, -⟩ := hn
              have n0 : us 0 = _ := n0
              clear ho
              skip
              rw [if_pos (by rfl)]
              go_simp
              refine hK _ _ _ (by simp only [Act.put, List.setIfInBounds_toArray, List.set_cons_zero, List.set_cons_succ, Nat.reduceAdd, n0] <;> rfl) ?_ hR ⟨fun h => h, fun h => h, fun h => h, trivial⟩
              refine only_mk (v := v) ?_
              with_reducible rfl
            · intro us v hR hn ho K hK
              obtain ⟨n11, -⟩ := hn
              have n11 : us 11 = _ := n11
              clear ho
              skip
              rw [if_pos (by rfl)]
              go_simp
              refine hK _ _ _ (by simp only [Act.put, List.setIfInBounds_toArray, List.set_cons_zero, List.set_cons_succ, Nat.reduceAdd, n11] <;> rfl) ?_ hR ⟨fun h => h, fun h => h, fun h => h, trivial⟩
              refine only_mk (v := v) ?_
              with_reducible rfl
            · intro us v hR hn ho K hK
              obtain ⟨n1, n12, -⟩ := hn
              have n1 : us 1 = _ := n1
              have n12 : us 12 = _ := n12
              clear ho
              skip
              rw [if_pos (by rfl)]
              go_simp
              refine hK _ _ _ (by simp only [Act.put, List.setIfInBounds_toArray, List.set_cons_zero, List.set_cons_succ, Nat.reduceAdd, n1, n12] <;> rfl) ?_ hR ⟨fun h => h, fun h => h, fun h => h, trivial⟩
              refine only_mk (v := v) ?_
              with_reducible rfl
            · intro us v hR hn ho K hK
              obtain ⟨n10, n13, -⟩ := hn
              have n13 : us 13 = _ := n13
              clear ho
              skip
              obtain ⟨arr, n10, hm⟩ := n10
              have y0 := (cell_of_block hm.box (2 + m)).trans (show _ from (congrArg (fun C : Array Value => C[2 + m]?) HC.out).trans HCG.out)
              have f0 := frozen_of_block hm.box (2 + m)
              have h2 := Lib.hid (hm.set HTM.out)
              clear hm
              unfold sl at n10 y0
              rw [if_pos (by rfl)]
              go_simp
              exact hK undef _ _ (by simp only [Act.put, List.setIfInBounds_toArray, List.set_cons_zero, List.set_cons_succ, Nat.reduceAdd, n13, n10] <;> rfl) ⟨_, h2.out⟩ trivial trivial
          case hla =>
            intro us v hR hl
            obtain ⟨n0, n1, n2, n3, n4, n5, n6, n7, n8, n11, n12, n13, n14, -⟩ := need_last hl [0, 1, 2, 3, 4, 5, 6, 7, 8, 11, 12, 13, 14] (by kernel_rfl)
            have n0 : us 0 = _ := n0
            have n1 : us 1 = _ := n1
            have n2 : us 2 = _ := n2
            have n3 : us 3 = _ := n3
            have n4 : us 4 = _ := n4
            have n5 : us 5 = _ := n5
            have n6 : us 6 = _ := n6
            have n7 : us 7 = _ := n7
            have n8 : us 8 = _ := n8
            have n11 : us 11 = _ := n11
            have n12 : us 12 = _ := n12
            have n13 : us 13 = _ := n13
            skip
            simp only [n0, n1, n2, n3, n4, n5, n6, n7, n8, n11, n12, n13]
            clear hl n0 n1 n2 n3 n4 n5 n6 n7 n8 n11 n12 n13
            obtain ⟨M3, hn14⟩ := n14
            have HN14 := Lib.hid hn14
            clear hn14
            go_wp2_with fail
            go_ret2
            show ActP _ _ _ _ _ _ (.returned (.tuple #[.string td, .bool true])) _
            rw [HE.out.1, HE.out.2.1, HE.out.2.2, HE2.out]
            exact HN14.out.is _
    · have he : (E != 0) = true := by simp [hE]
      have hfr : s.frameB me k = false := by rw [HDEF.out.1, HFE.out.2]; simp [hE]
      have HE := Lib.hid (show s.come me k = s.lose me k ∧ s.comeS me k = ⟨#[]⟩ ∧ s.comeB me k = false from by
        unfold PS.come PS.comeS PS.comeB; rw [hfr]; exact ⟨rfl, rfl, rfl⟩)
      clear hE hfr
      go_wp2_with fail
      go_ret2
      show ActP _ _ _ _ _ _ (.returned (.tuple #[.string ⟨#[]⟩, .bool false])) _
      rw [HE.out.1, HE.out.2.1, HE.out.2.2]
      exact (HN3.out.after ((Below.refl _ _).alloc (Nat.le_refl _) _)).is _
end
end Go.Proofs.YtihhflajkohibaaGreatDoor.Pipe
/- Layer 10: a pipe that the call made, from act to act. Conditions: the pipe stands (Stand). -/
namespace Go.Proofs.YtihhflajkohibaaGreatDoor.Pipe
set_option linter.unusedSimpArgs false
set_option linter.unusedVariables false
set_option maxRecDepth 100000
open Go.RowKit
open Go.Proofs.YtihhflajkohibaaGreatDoor
open Go.Proofs.YtihhflajkohibaaGreatDoor.Link (LE Fr EndIs)
open Go.Proofs.YtihhflajkohibaaGreatDoor.Net (NS NetIs)
/-- a pipe that was made since w0, and all that was there ahead is as it was -/
structure Stand (w0 : World) (p : Nat) (s : PS) (w : World) : Prop where
  is : ∃ F, PipeIs w0.heap.size w p F s
  below : Below w0.heap.size w0 w
  env : Env w0.heap.size w
theorem no_false : no false = 0 := rfl
theorem no_true : no true = 1 := rfl
section
variable {w0 w w' : World} {p : Nat} {s s' : PS}
theorem Stand.after (h : Stand w0 p s w) (hb : Below w.heap.size w w') : Stand w0 p s w' := by
  obtain ⟨F, hF⟩ := h.is
  exact ⟨⟨F, hF.after hb⟩, h.below.trans (hb.mono h.env.le), h.env.below (hb.mono h.env.le)⟩
theorem Stand.drewN (h : Stand w0 p s w) (n : Nat) : Stand w0 p s (w.drewN n) := h.after (below_drewN (Below.refl _ _) n)
theorem Stand.act (h : Stand w0 p s w) {f : FuncId} {args : Array Value} {v : Value} (k : ∀ F, PipeIs w0.heap.size w p F s → Calls Tryz.prog f args w (ActP w0.heap.size w p F s' v)) : Calls Tryz.prog f args w fun e w' => e = .returned v ∧ Stand w0 p s' w' := by
  obtain ⟨F, hF⟩ := h.is
  refine (k F hF).mono ?_
  rintro e w' ⟨rfl, F', h1, h2⟩
  have hb := hF.under h.env.le h2
  exact ⟨rfl, ⟨F', h1⟩, h.below.trans hb, h.env.below hb⟩
theorem stand_new (epoch first window queue wait room : Int) (hf : Link.u first = first) (w0 w : World) (hb : Below w0.heap.size w0 w) (hv : Env w0.heap.size w) :
    Calls Tryz.prog 4 #[.int .i64 epoch, .int .u64 first, .int .i64 window, .int .i64 queue, .int .i64 wait, .int .i64 room] w fun e w' => ∃ p, e = .returned (.pointer (some ⟨p, 0, none⟩)) ∧ Stand w0 p (new epoch first window queue wait room) w' := by
  refine (new_any epoch first window queue wait room hf w).mono ?_
  rintro e w' ⟨p, F, rfl, h1, h2, h3⟩
  obtain ⟨M, e, hs⟩ := h1
  refine ⟨p, rfl, ⟨F, M, e, ?_⟩, hb.trans (h3.mono hv.le), hv.below (h3.mono hv.le)⟩
  exact Pipe.Sep.lower hs hv.le
theorem Stand.send (h : Stand w0 p s w) (me : Bool) (b : ByteArray) :
    Calls Tryz.prog 8 #[.pointer (some ⟨p, 0, none⟩), .int .i64 (no me), .string b] w (fun e w' => e = .returned (.int .i64 ((s.e me).sendE b)) ∧ Stand w0 p (s.send me b) w') := h.act fun _ k => send_yes k h.env.le me b
theorem Stand.tick (h : Stand w0 p s w) (me : Bool) :
    Calls Tryz.prog 12 #[.pointer (some ⟨p, 0, none⟩), .int .i64 (no me)] w (fun e w' => e = .returned (.tuple #[]) ∧ Stand w0 p (s.tick me) w') := h.act fun _ k => tick_yes k h.env.le me
theorem Stand.go (h : Stand w0 p s w) (me : Bool) :
    Calls Tryz.prog 10 #[.pointer (some ⟨p, 0, none⟩), .int .i64 (no me)] w (fun e w' => e = .returned (.int .i64 ((s.gone me).2 : Int)) ∧ Stand w0 p (s.go me) w') := h.act fun _ k => go_yes k h.env me
theorem Stand.come (h : Stand w0 p s w) (me : Bool) (k : Int) (hsh : Short s.n) (hg : (s.g me).length ≤ 1000000) :
    Calls Tryz.prog 14 #[.pointer (some ⟨p, 0, none⟩), .int .i64 (no me), .int .i64 k] w (fun e w' => e = .returned (.tuple #[.string (s.comeS me k), .bool (s.comeB me k)]) ∧ Stand w0 p (s.come me k) w') := h.act fun _ j => come_yes j h.env hsh me hg k
theorem Stand.lose (h : Stand w0 p s w) (me : Bool) (k : Int) :
    Calls Tryz.prog 16 #[.pointer (some ⟨p, 0, none⟩), .int .i64 (no me), .int .i64 k] w (fun e w' => e = .returned (.bool (s.has me k)) ∧ Stand w0 p (s.lose me k) w') := h.act fun _ j => lose_yes j h.env.le me k
theorem Stand.look (h : Stand w0 p s w) (me : Bool) (k : Int) :
    Calls Tryz.prog 28 #[.pointer (some ⟨p, 0, none⟩), .int .i64 (no me), .int .i64 k] w (fun e w' => e = .returned (.tuple #[.string (s.look me k), .bool (s.has me k)]) ∧ Stand w0 p (s) w') := h.act fun _ j => look_yes j h.env.le me k
theorem Stand.double (h : Stand w0 p s w) (me : Bool) (k : Int) :
    Calls Tryz.prog 18 #[.pointer (some ⟨p, 0, none⟩), .int .i64 (no me), .int .i64 k] w (fun e w' => e = .returned (.bool (s.doubleOk me k)) ∧ Stand w0 p (s.double me k) w') := h.act fun _ j => double_yes j h.env.le me k
theorem Stand.flip (h : Stand w0 p s w) (me : Bool) (k bit : Int) (hsh : Short s.n) :
    Calls Tryz.prog 20 #[.pointer (some ⟨p, 0, none⟩), .int .i64 (no me), .int .i64 k, .int .i64 bit] w (fun e w' => e = .returned (.bool (s.flipOk me k)) ∧ Stand w0 p (s.flip me k bit) w') := h.act fun _ j => flip_yes j h.env.le me k bit (by
  have : (s.look me k).size ≤ 100 := hsh.look _ _ _
  omega)
theorem Stand.waiting (h : Stand w0 p s w) (me : Bool) : Calls Tryz.prog 25 #[.pointer (some ⟨p, 0, none⟩), .int .i64 (no me)] w fun e w' => e = .returned (.int .i64 ((s.e me).bodies.length : Int)) ∧ w = w' := by
  obtain ⟨F, hF⟩ := h.is
  exact waiting_yes hF me
theorem Stand.got (h : Stand w0 p s w) (me : Bool) (hl : (s.g me).length ≤ 1000000) : Calls Tryz.prog 23 #[.pointer (some ⟨p, 0, none⟩), .int .i64 (no me)] w fun e w' => ∃ A' c' G', e = .returned (.slice A' (s.g me).length c') ∧ Vec w' G' 1 A' (s.g me).length c' ((s.g me).map .string) ∧ Stand w0 p s w' := by
  obtain ⟨F, hF⟩ := h.is
  refine (got_yes hF me hl).mono ?_
  rintro e w' ⟨A', c', G', rfl, h1, h2, h3⟩
  exact ⟨A', c', G', rfl, h1, h.after h3⟩
end
end Go.Proofs.YtihhflajkohibaaGreatDoor.Pipe
/- Layer 10: the statements' awake returns true. Conditions: the program's variables are as they were laid (Env). -/
namespace Go.Proofs.YtihhflajkohibaaGreatDoor.Pipe
set_option linter.unusedSimpArgs false
set_option linter.unusedVariables false
set_option maxRecDepth 100000
open Go.RowKit
open Go.Proofs.YtihhflajkohibaaGreatDoor
open Go.Proofs.YtihhflajkohibaaGreatDoor.Link (LE Fr EndIs)
open Go.Proofs.YtihhflajkohibaaGreatDoor.Net (NS NetIs)
def ba : ByteArray := ⟨#[97]⟩
def q0 : PS := new 1 0 4 9 2 9
def q1 : PS := q0.send false ba
def q2 : PS := q1.go false
def q3 : PS := q2.flip true 0 50
def q4 : PS := q3.come true 0
def q5 : PS := q4.tick false
def q6 : PS := q5.tick false
def q7 : PS := q6.go false
def q8 : PS := q7.come true 0
theorem f1 : (q0.e false).sendE ba = 0 := by decide +kernel
theorem f2 : (q1.gone false).2 = 1 := by decide +kernel
theorem f3 : q2.flipOk true 0 = true := by decide +kernel
theorem f4 : q3.comeB true 0 = false := by decide +kernel
theorem f7 : (q6.gone false).2 = 1 := by decide +kernel
theorem f8 : q7.comeB true 0 = true := by decide +kernel
theorem f9 : q7.comeS true 0 = ⟨#[97]⟩ := by decide +kernel
theorem f10 : q8.has true 0 = false := by decide +kernel
theorem f11 : q8.g true = [⟨#[97]⟩] := by decide +kernel
theorem f12 : (q8.e false).bodies.length = 1 := by decide +kernel
theorem f13 : (q8.lose true 0).doubleOk true 0 = false := by decide +kernel
theorem sh0 : Short q0.n := new_short _ _
theorem sh2 : Short q2.n := PS.short_go sh0
theorem sh3 : Short q3.n := PS.short_flip sh2 _ _
theorem sh4 : Short q4.n := PS.short_come sh3 _
theorem sh7 : Short q7.n := PS.short_go (s := q6) sh4
theorem sh8 : Short q8.n := PS.short_come sh7 _
theorem g3 : (q3.g true).length = 0 := by decide +kernel
theorem g7 : (q7.g true).length = 0 := by decide +kernel
theorem Env.top {B : Nat} {w : World} (h : Env B w) : Env w.heap.size w := ⟨h.tab, h.err, Nat.lt_of_lt_of_le h.t h.le, Nat.lt_of_lt_of_le h.e h.le, Nat.le_refl _⟩
set_option maxRecDepth 100000 in
set_option maxHeartbeats 4000000 in
theorem awake_any {B : Nat} (w : World) (hv : Env B w) : Calls Tryz.prog 5 #[] w fun e w' => e = .returned (.bool true) ∧ Below w.heap.size w w' := by
  have HV := Lib.hid hv.top
  clear hv
  go_enter Tryz.func5, Tryz.ntmps5
  go_wp2_with fail
  refine (stand_new 1 0 4 9 2 9 rfl w _ (Below.refl _ _) HV.out).mono ?_
  rintro e w1 ⟨p, rfl, h1⟩
  have H1 := Lib.hid (show Stand w p q0 w1 from h1)
  clear h1
  go_wp2_with fail
  refine (H1.out.send false ba).mono ?_
  rw [f1]
  rintro e w2 ⟨rfl, h2⟩
  have H2 := Lib.hid (show Stand w p q1 w2 from h2)
  clear h2
  go_wp2_with fail
  refine (H2.out.go false).mono ?_
  rw [f2]
  rintro e w3 ⟨rfl, h3⟩
  have H3 := Lib.hid (show Stand w p q2 w3 from h3)
  clear h3
  go_wp2_with fail
  refine (H3.out.flip true 0 50 sh2).mono ?_
  rw [f3]
  rintro e w4 ⟨rfl, h4⟩
  have H4 := Lib.hid (show Stand w p q3 w4 from h4)
  clear h4
  go_wp2_with fail
  refine (H4.out.come true 0 sh3 (by rw [g3]; omega)).mono ?_
  rw [f4]
  generalize q3.comeS true 0 = sx
  rintro e w5 ⟨rfl, h5⟩
  have H5 := Lib.hid (show Stand w p q4 w5 from h5)
  clear h5
  go_wp2_with fail
  refine (H5.out.tick false).mono ?_
  rintro e w6 ⟨rfl, h6⟩
  have H6 := Lib.hid (show Stand w p q5 w6 from h6)
  clear h6
  go_wp2_with fail
  refine (H6.out.tick false).mono ?_
  rintro e w7 ⟨rfl, h7⟩
  have H7 := Lib.hid (show Stand w p q6 w7 from h7)
  clear h7
  go_wp2_with fail
  refine (H7.out.go false).mono ?_
  rw [f7]
  rintro e w8 ⟨rfl, h8⟩
  have H8 := Lib.hid (show Stand w p q7 w8 from h8)
  clear h8
  go_wp2_with fail
  refine (H8.out.come true 0 sh7 (by rw [g7]; omega)).mono ?_
  rw [f8, f9]
  rintro e w9 ⟨rfl, h9⟩
  have H9 := Lib.hid (show Stand w p q8 w9 from h9)
  clear h9
  go_wp2_with fail
  refine (H9.out.look true 0).mono ?_
  rw [f10]
  generalize q8.look true 0 = sy
  rintro e w10 ⟨rfl, h10⟩
  have H10 := Lib.hid h10
  clear h10
  go_wp2_with fail
  refine (H10.out.got true (by rw [f11]; decide)).mono ?_
  rw [f11]
  rintro e w11 ⟨A, c, G, rfl, hv11, h11⟩
  have hc := hv11.at (j := 0) rfl
  obtain ⟨g, o, rfl, _, _, hc⟩ := hc
  rw [Nat.add_zero] at hc
  have H11 := Lib.hid h11
  clear h11 hv11
  go_wp2_with fail
  refine (H11.out.waiting false).mono ?_
  rw [f12]
  rintro e w12 ⟨rfl, rfl⟩
  go_wp2_with fail
  refine (send_no _ 2 rfl _ _).mono ?_
  rintro e w12 ⟨rfl, rfl⟩
  go_wp2_with fail
  refine (H11.out.lose true 0).mono ?_
  rw [f10]
  rintro e w13 ⟨rfl, h13⟩
  have H13 := Lib.hid h13
  clear h13
  go_wp2_with fail
  refine (H13.out.double true 0).mono ?_
  rw [f13]
  rintro e w14 ⟨rfl, h14⟩
  have H14 := Lib.hid h14
  clear h14
  go_wp2_with fail
  go_ret
  exact ⟨rfl, H14.out.below⟩
end Go.Proofs.YtihhflajkohibaaGreatDoor.Pipe
