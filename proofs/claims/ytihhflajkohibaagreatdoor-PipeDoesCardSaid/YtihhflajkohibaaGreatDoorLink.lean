/- Layer 9: what each method of an end of a link does to the end in memory. Conditions: the end lies (EndIs), and is one that may be (Ok). -/
import Derived.Test.YtihhflajkohibaaGreatDoorRows
import Derived.Test.YtihhflajkohibaaGreatDoorVec
import Derived.Test.YtihhflajkohibaaGreatDoorLinkPlain
import Derived.StillTailTactics
namespace Go.Proofs.YtihhflajkohibaaGreatDoor.Link
set_option linter.unusedSimpArgs false
set_option linter.unusedVariables false
set_option maxRecDepth 100000
open Go.RowKit

def ends (x : LE) (A : Option Addr) (c : Nat) : Array Value :=
  #[.int .i64 x.epoch, .int .i64 (x.window : Int), .int .i64 (x.queue : Int), .int .i64 (x.wait : Int), .slice A x.bodies.length c, .int .u64 x.first, .int .i64 (x.out : Int), .int .i64 (x.ever : Int), .int .u64 x.want, .bool x.owes, .int .i64 (x.age : Int)]
/-- an end in memory: its struct in block p; F is all that it may write -/
def Lies (w : World) (p : Nat) (F : List Nat) (x : LE) : Prop :=
  ∃ A c G, F = p :: G ∧ p ∉ G ∧ w.heap[p]? = some (.cells (ends x A c) 116 (0, 0)) ∧ Vec w G 1 A x.bodies.length c (x.bodies.map .string)
theorem Lies.lt {w : World} {p : Nat} {F : List Nat} {x : LE} (h : Lies w p F x) {k : Nat} (hk : k ∈ F) : k < w.heap.size := by
  obtain ⟨A, c, G, rfl, _, hst, hv⟩ := h
  rcases List.mem_cons.1 hk with rfl | hk
  · exact lt_of_block hst
  · exact hv.lt hk
theorem Lies.keep {w w' : World} {p : Nat} {F : List Nat} {x : LE} (h : Lies w p F x) (hs : w.heap.size ≤ w'.heap.size) (hb : ∀ k, k ∈ F → w'.heap[k]? = w.heap[k]?) : Lies w' p F x := by
  obtain ⟨A, c, G, rfl, hn, hst, hv⟩ := h
  exact ⟨A, c, G, rfl, hn, (hb p (by simp)).trans hst, hv.keep hs fun k hk => hb k (by simp [hk])⟩
structure EndIs (w : World) (p : Nat) (F : List Nat) (x : LE) : Prop where
  lies : Lies w p F x
  ok : x.Ok
section
variable {w w' : World} {p : Nat} {F : List Nat} {x : LE}
theorem EndIs.lt (h : EndIs w p F x) {k : Nat} (hk : k ∈ F) : k < w.heap.size := by
  obtain ⟨A, c, G, rfl, _, hst, hv⟩ := h.lies
  rcases List.mem_cons.1 hk with rfl | hk
  · exact lt_of_block hst
  · exact hv.lt hk
theorem EndIs.mem (h : EndIs w p F x) : p ∈ F := by
  obtain ⟨A, c, G, rfl, _⟩ := h.lies; simp
theorem EndIs.keep (h : EndIs w p F x) (hs : w.heap.size ≤ w'.heap.size) (hb : ∀ k, k ∈ F → w'.heap[k]? = w.heap[k]?) : EndIs w' p F x := by
  obtain ⟨A, c, G, rfl, hn, hst, hv⟩ := h.lies
  exact ⟨⟨A, c, G, rfl, hn, (hb p (by simp)).trans hst, hv.keep hs fun k hk => hb k (by simp [hk])⟩, h.ok⟩
theorem EndIs.after (h : EndIs w p F x) (hb : Below w.heap.size w w') : EndIs w' p F x := h.keep hb.size fun k hk => hb.block k (h.lt hk)
theorem EndIs.kept {L : List Nat} (h : EndIs w p F x) (hk : Kept L w w') (hL : ∀ k, k ∈ F → k ∉ L) : EndIs w' p F x := h.keep hk.size fun k hm => hk.block k (h.lt hm) (hL k hm)
theorem EndIs.drewN (h : EndIs w p F x) (n : Nat) : EndIs (w.drewN n) p F x := h.keep (Nat.le_refl _) fun _ _ => rfl
theorem EndIs.drew (h : EndIs w p F x) : EndIs w.drew p F x := h.keep (Nat.le_refl _) fun _ _ => rfl
end

/-- one field of the end is another one -/
theorem EndIs.set {w w2 : World} {p : Nat} {G : List Nat} {x y : LE} {A A' : Option Addr} {c c' i : Nat} {u : Value} (hn : p ∉ G) (hst : w.heap[p]? = some (.cells (ends x A c) 116 (0, 0)))
    (hv : Vec w G 1 A' y.bodies.length c' (y.bodies.map .string)) (hy : (ends x A c).setIfInBounds i u = ends y A' c') (ok : y.Ok) (e : w2 = w.setCell ⟨p, i, none⟩ u) : EndIs w2 p (p :: G) y ∧ Turns (p :: G) (p :: G) w w2 := by
  subst e
  refine ⟨⟨⟨A', c', G, rfl, hn, ?_, hv.setCell hn _⟩, ok⟩, ⟨(Kept.refl _ _).setCell (.inl (by simp)) _, fun _ h => .inl h⟩⟩
  rw [set_block hst, hy]

theorem EndIs.turned {w w2 : World} {p : Nat} {G : List Nat} {y : LE} {A' : Option Addr} {c' : Nat} {B : Array Value} (hn : p ∉ G) (hst : w2.heap[p]? = some (.cells B 116 (0, 0)))
    (hB : B = ends y A' c') (hv : Vec w G 1 A' y.bodies.length c' (y.bodies.map .string)) (ok : y.Ok) (hk : Kept [p] w w2) : EndIs w2 p (p :: G) y ∧ Turns (p :: G) (p :: G) w w2 := by
  subst hB
  exact ⟨⟨⟨A', c', G, rfl, hn, hst, hv.kept hk (fun k hkG => by simp; rintro rfl; exact hn hkG)⟩, ok⟩, ⟨hk.mono (by simp), fun _ h => .inl h⟩⟩

theorem ret_int {k : IntKind} {a b : Int} (h : a = b) : Ending.returned (.int k a) = .returned (.int k b) := by rw [h]

theorem str_info : (Tryz.prog.info? 9).map (fun i => (i.zero, i.size, i.bytes)) = some (some (.string ⟨#[]⟩), 1, 16) := by kernel_rfl

section
variable {w : World} {p : Nat} {F : List Nat} {x : LE}
set_option maxHeartbeats 400000 in
theorem clamp_any (n : Int) (lo hi : Nat) (hl : lo ≤ hi) (w : World) (N L H : Int) (hN : N = n) (hL : L = (lo : Int)) (hH : H = (hi : Int)) :
    Calls Tryz.prog 60 #[.int .i64 N, .int .i64 L, .int .i64 H] w fun e w' => e = .returned (.int .i64 ((clampN n lo hi : Nat) : Int)) ∧ w = w' := by
  subst hN; subst hL; subst hH
  have hc : ((clampN N lo hi : Nat) : Int) = min (max N lo) hi := by unfold clampN; omega
  have HC := Lib.hid hc
  clear hc
  go_enter Tryz.func60, Tryz.ntmps60
  go_wp2
  all_goals
    go_ret
    exact ⟨ret_int (by rw [HC.out]; omega), rfl⟩
set_option maxHeartbeats 400000 in
theorem new_any (epoch first window queue wait : Int) (hf : u first = first) (w : World) :
    Calls Tryz.prog 31 #[.int .i64 epoch, .int .u64 first, .int .i64 window, .int .i64 queue, .int .i64 wait] w fun e w' =>
      e = .returned (.pointer (some ⟨w.heap.size, 0, none⟩)) ∧ EndIs w' w.heap.size [w.heap.size] (new epoch first window queue wait) ∧ Below w.heap.size w w' := by
  have hok := new_ok epoch first window queue wait hf
  have HOK := Lib.hid hok
  clear hok hf
  go_enter Tryz.func31, Tryz.ntmps31
  go_wp2_with fail
  refine (clamp_any window 1 8 (by omega) _ _ _ _ rfl rfl rfl).mono ?_
  rintro e w1 ⟨rfl, rfl⟩
  go_wp2_with fail
  refine (clamp_any queue 0 64 (by omega) _ _ _ _ rfl rfl rfl).mono ?_
  rintro e w1 ⟨rfl, rfl⟩
  go_wp2_with fail
  refine (clamp_any wait 1 100 (by omega) _ _ _ _ rfl rfl rfl).mono ?_
  rintro e w1 ⟨rfl, rfl⟩
  go_wp2_with fail
  go_ret
  exact ⟨rfl, ⟨⟨none, 0, [], rfl, by simp, heap_alloc_new w _, Vec.nil _ _⟩, HOK.out⟩, (Below.refl _ _).alloc (Nat.le_refl _) _⟩
set_option maxHeartbeats 400000 in
theorem waiting_any (h : EndIs w p F x) : Calls Tryz.prog 58 #[.pointer (some ⟨p, 0, none⟩)] w fun e w' => e = .returned (.int .i64 (x.bodies.length : Int)) ∧ w = w' := by
  obtain ⟨A, c, G, rfl, hn, hst, hv⟩ := h.lies
  have c4 := cell_of_block hst 4
  simp [ends] at c4
  go_enter Tryz.func58, Tryz.ntmps58
  go_wp2
  go_ret
  exact ⟨rfl, rfl⟩
set_option maxHeartbeats 1000000 in
theorem send_any (h : EndIs w p F x) (b : ByteArray) :
    Calls Tryz.prog 35 #[.pointer (some ⟨p, 0, none⟩), .string b] w fun e w' => e = .returned (.int .i64 (x.sendE b)) ∧ ∃ F', EndIs w' p F' (x.sent b) ∧ Turns F F' w w' := by
  have h0 := h
  have hok := h.ok.sent b
  have hq := h.ok.q64
  obtain ⟨A, c, G, rfl, hn, hst, hv⟩ := h.lies
  have c2 := cell_of_block hst 2
  have c4 := cell_of_block hst 4
  simp [ends] at c2 c4
  have hfr := frozen_of_block hst 4
  obtain ⟨i0, hi0, hz0, hz1, hz2⟩ := info_parts str_info
  by_cases hl : 64 < b.size
  · have hd : decide (64 < (b.size : Int)) = true := by simp; omega
    have e1 : x.sendE b = 90 := by unfold LE.sendE; rw [if_pos hl]
    have e2 : x.sent b = x := by unfold LE.sent; rw [if_neg (by omega)]
    rw [e1, e2]
    clear e1 e2 hok
    go_enter Tryz.func35, Tryz.ntmps35
    go_wp2
    go_ret
    exact ⟨rfl, _, h0, Turns.refl _ _⟩
  · have hd : decide (64 < (b.size : Int)) = false := by simp; omega
    by_cases hf : x.queue ≤ x.bodies.length
    · have hd2 : decide (x.queue ≤ x.bodies.length) = true := by simpa using hf
      have e1 : x.sendE b = 91 := by unfold LE.sendE; rw [if_neg hl, if_pos hf]
      have e2 : x.sent b = x := by unfold LE.sent; rw [if_neg (by omega)]
      rw [e1, e2]
      clear e1 e2 hok
      go_enter Tryz.func35, Tryz.ntmps35
      go_wp2_with fail
      go_quiet (fail)
      go_wp2
      go_ret
      exact ⟨rfl, _, h0.drewN nq, (Turns.refl _ _).drewN nq⟩
    · have hd2 : decide (x.queue ≤ x.bodies.length) = false := by simpa using hf
      have e1 : x.sendE b = 0 := by unfold LE.sendE; rw [if_neg hl, if_neg hf]
      have e2 : x.sent b = { x with bodies := x.bodies ++ [b] } := by unfold LE.sent; rw [if_pos (by omega)]
      rw [e2] at hok
      rw [e1, e2]
      have HOK := Lib.hid hok
      clear e1 e2 hok
      go_enter Tryz.func35, Tryz.ntmps35
      go_wp2_with fail
      go_quiet (fail)
      have hv1 := (hv.drewN nq).alloc (.cells #[.string b] 9)
      have hn1 : (w.drewN nq).heap.size = w.heap.size := rfl
      have hs1 : Src Tryz.prog 1 28 (.slice (some ⟨w.heap.size, 0, none⟩) 1 1) 1 [.string b] ((w.drewN nq).alloc (.cells #[.string b] 9)) := src_new (w := (w.drewN nq).alloc (.cells #[.string b] 9)) Tryz.underlying28 [.string b] 1 1 1 rfl (by simp [Value.oneCell']) w.heap.size (heap_alloc_new (w.drewN nq) _)
      have hpl := lt_of_block hst
      have hlen : x.bodies.length + 1 = (x.bodies ++ [b]).length := by simp
      have HLEN := Lib.hid hlen
      clear hlen
      go_wp2_with (at_builtin; go_loud (refine wpList_append_vec _ (by rfl) _ _ _ _ (by rfl) 9 i0 _ 1 16 Tryz.underlying28 hi0 hz0 hz1 hz2 rfl G A x.bodies.length c (x.bodies.map .string) _ 1 [.string b] (by rfl) (by rfl) hv1 hs1 (by unfold maxLen; omega) (by omega) ?_; intro v' w1 happ; obtain ⟨G', A', c', rfl, hv', ht⟩ := happ.all; have k4 := (ht.kept.cell (p := ⟨p, 4, none⟩) (by simp; omega) (by exact hn)).trans ((World.cell?_alloc_lt _ _ _ (by exact hpl)).trans c4); have f4 := (ht.kept.frozen (p := ⟨p, 4, none⟩) (by simp; omega) (by exact hn)).trans ((World.frozen?_alloc_past _ _ _ (by exact hpl)).trans hfr)))
      go_ret
      have hst1 := (ht.kept.block p (by simp; omega) hn).trans ((Below.heap_alloc (w.drewN nq) (.cells #[.string b] 9) p hpl).trans hst)
      have hn1' : p ∉ G' := ht.apart (by simp; omega) hn
      rw [HLEN.out] at hv'
      obtain ⟨r1, r2⟩ := EndIs.set (x := x) (y := { x with bodies := x.bodies ++ [b] }) (i := 4) (u := .slice A' (x.bodies.length + 1) c') hn1' hst1 (by simpa using hv') (by simp [ends]) HOK.out rfl
      exact ⟨rfl, _, r1, (Turns.of_below ((below_drewN (Below.refl w.heap.size w) nq).alloc (Nat.le_refl _) (.cells #[.string b] 9)) _).trans ((ht.cons p).trans r2)⟩
set_option maxHeartbeats 1000000 in
theorem tick_any (h : EndIs w p F x) :
    Calls Tryz.prog 45 #[.pointer (some ⟨p, 0, none⟩)] w fun e w' => e = .returned (.tuple #[]) ∧ EndIs w' p F x.ticked ∧ Turns F F w w' := by
  have h0 := h
  have hok := h.ok.ticked
  have ht := h.ok.t100
  have hag := h.ok.age
  obtain ⟨A, c, G, rfl, hn, hst, hv⟩ := h.lies
  have c3 := cell_of_block hst 3
  have c6 := cell_of_block hst 6
  have c10 := cell_of_block hst 10
  simp [ends] at c3 c6 c10
  have f6 := frozen_of_block hst 6
  have f10 := frozen_of_block hst 10
  by_cases ho : x.out = 0
  · have hd : ((x.out : Int) == 0) = true := by simp [ho]
    have e1 : x.ticked = x := by unfold LE.ticked; rw [if_pos ho]
    rw [e1]
    clear e1 hok ho
    go_enter Tryz.func45, Tryz.ntmps45
    go_wp2
    (try simp only [Exit.inBlock, Exit.then])
    refine bodyPost_ret (results_none rfl _ _ _) rfl ?_
    exact ⟨rfl, h0, Turns.refl _ _⟩
  · have hd : ((x.out : Int) == 0) = false := by simp [ho]
    by_cases hw : x.wait ≤ x.age + 1
    · have e1 : x.ticked = { x with out := 0, age := 0 } := by unfold LE.ticked; rw [if_neg ho, if_pos hw]
      rw [e1] at hok ⊢
      have HOK := Lib.hid hok
      clear e1 hok
      have hd2 : decide ((x.wait : Int) ≤ (x.age : Int) + 1) = true := by simp; omega
      go_enter Tryz.func45, Tryz.ntmps45
      go_wp2_with fail
      go_quiet (fail)
      go_wp2
      go_end0
      have s1 := set_block hst 10 (.int .i64 ((x.age : Int) + 1))
      have s2 := set_block (w := (w.setCell ⟨p, 10, none⟩ (.int .i64 ((x.age : Int) + 1))).drewN nq) s1 6 (.int .i64 0)
      have s3 := set_block s2 10 (.int .i64 0)
      exact ⟨rfl, EndIs.turned (A' := A) (c' := c) hn s3 (by simp [ends]) (by exact hv) HOK.out ((((Kept.refl [p] w).setCell (.inl (by simp)) _).drewN nq |>.setCell (.inl (by simp)) _).setCell (.inl (by simp)) _)⟩
    · have e1 : x.ticked = { x with age := x.age + 1 } := by unfold LE.ticked; rw [if_neg ho, if_neg hw]
      rw [e1] at hok ⊢
      have HOK := Lib.hid hok
      clear e1 hok
      have hd2 : decide ((x.wait : Int) ≤ (x.age : Int) + 1) = false := by simp; omega
      go_enter Tryz.func45, Tryz.ntmps45
      go_wp2_with fail
      go_quiet (fail)
      go_wp2
      go_end0
      have s1 := set_block hst 10 (.int .i64 ((x.age : Int) + 1))
      exact ⟨rfl, EndIs.turned (A' := A) (c' := c) hn (w2 := (w.setCell ⟨p, 10, none⟩ (.int .i64 ((x.age : Int) + 1))).drewN nq) s1 (by simp [ends]) (by exact hv) HOK.out (((Kept.refl [p] w).setCell (.inl (by simp)) _).drewN nq)⟩
end
end Go.Proofs.YtihhflajkohibaaGreatDoor.Link
