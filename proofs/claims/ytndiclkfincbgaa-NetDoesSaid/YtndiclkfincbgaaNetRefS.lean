/- Layer 8, the reference: a net as a value: Send, Double. Conditions: the value's rows lie (RefNet). -/
import Derived.Test.YtndiclkfincbgaaNetRefW
import Derived.Test.YtndiclkfincbgaaFlow
import Derived.Deep.QuietTactic
import Derived.Outline
namespace Go.Proofs.Ytndiclkfincbgaa.Net
set_option linter.unusedSimpArgs false
set_option linter.unusedVariables false
open Go.RowKit
/-- what hands back another net and whether -/
def PutSaid (w : World) (G : List Nat) (s' : NS) (n : Nat) (ok : Bool) (e : Ending) (w' : World) : Prop :=
  ∃ v' W' c' ws' G', e = .returned (.tuple #[v', .bool ok]) ∧ RefNet w' G' v' s' W' c' ws' ∧ ws'.length ≤ n + 1 ∧ (∀ k, k ∈ G' → k ∈ G ∨ w.heap.size ≤ k) ∧ Below w.heap.size w w'
/-- the box of the argument, and the block of the result -/
structure Boxes (w w2 : World) (x0 x1 x2 : Value) : Prop where
  sz : w2.heap.size = w.heap.size + 2
  below : Below w.heap.size w w2
  box : w2.heap[w.heap.size]? = some (.cells #[x0, x1, x2] 29 (0, 0))
  res : w2.heap[w.heap.size + 1]? = some (.cells #[.int .i64 0, .int .i64 0, .slice none 0 0] 29 (0, 0))
theorem boxes (w : World) (x0 x1 x2 : Value) : Boxes w ((w.alloc (.cells #[x0, x1, x2] 29)).alloc (.cells #[.int .i64 0, .int .i64 0, .slice none 0 0] 29)) x0 x1 x2 := by
  refine ⟨by simp, ((Below.refl _ _).alloc (Nat.le_refl _) _).alloc (by simp) _, ?_, ?_⟩
  · rw [Below.heap_alloc _ _ _ (by simp)]; exact heap_alloc_new w _
  · exact heap_new_at _ _ _ (by simp)
/-- six facts of a block of three cells -/
structure Three (w : World) (g : Nat) (a0 a1 a2 : Value) : Prop where
  c0 : w.cell? ⟨g, 0, none⟩ = some a0
  c1 : w.cell? ⟨g, 1, none⟩ = some a1
  c2 : w.cell? ⟨g, 2, none⟩ = some a2
  f0 : w.frozen? ⟨g, 0, none⟩ = false
  f1 : w.frozen? ⟨g, 1, none⟩ = false
  f2 : w.frozen? ⟨g, 2, none⟩ = false
theorem three {w : World} {g : Nat} {t : TypeId} {a0 a1 a2 : Value} (h : w.heap[g]? = some (.cells #[a0, a1, a2] t (0, 0))) : Three w g a0 a1 a2 := by
  refine ⟨?_, ?_, ?_, frozen_of_block h _, frozen_of_block h _, frozen_of_block h _⟩ <;> (rw [cell_of_block h]; rfl)
theorem kept_fresh {L F : List Nat} {a w w' : World} (h : Kept L a w) (hk : Kept F w w') (hF : ∀ k, k ∈ F → a.heap.size ≤ k) : Kept L a w' :=
  ⟨hk.os.trans h.os, hk.tape.trans h.tape, hk.output.trans h.output, Nat.le_trans h.size hk.size, fun k h1 h2 => (hk.block k (Nat.lt_of_lt_of_le h1 h.size) (fun hm => by have := hF k hm; omega)).trans (h.block k h1 h2)⟩
section
variable {w w' : World} {G : List Nat} {v : Value} {s : NS} {W : Option Addr} {c : Nat} {ws : List Way}
theorem empty_cells (v : World) (t : TypeId) : ∃ b, b = v.heap.size ∧ Vec (v.alloc (.cells #[] t)) [b] 1 (some ⟨b, 0, none⟩) 0 0 [] ∧ (v.alloc (.cells #[] t)).heap[b]? = some (.cells #[] t (0, 0)) :=
  ⟨_, rfl, vec_empty v t 1 _ rfl, heap_alloc_new v _⟩
theorem b_ne {v : World} {b d : Nat} {t t' : TypeId} {x : Value} (h1 : v.heap[b]? = some (.cells #[] t (0, 0))) (h2 : v.heap[d]? = some (.cells #[x] t' (0, 0))) : d ≠ b := by
  rintro rfl; rw [h1] at h2; simp at h2
set_option maxRecDepth 100000 in
set_option maxHeartbeats 8000000 in
theorem ref_send (h : RefNet w G v s W c ws) (a b : Int) (t : ByteArray) (hl : ws.length ≤ 900) :
    Calls Try.prog 14 #[v, .int .i64 a, .int .i64 b, .string t] w (PutSaid w G (s.send a b t) ws.length (s.sendOk a b)) := by
  obtain ⟨i0, hi0, hz0, hz1, hz2⟩ := info_parts str_info
  have hv := h.v
  subst hv
  have hbx := boxes w (.int .i64 (s.n : Int)) (.int .i64 (s.m : Int)) (.slice W ws.length c)
  obtain ⟨w2, hw2⟩ : ∃ w2, (w.alloc (.cells #[.int .i64 (s.n : Int), .int .i64 (s.m : Int), .slice W ws.length c] 29)).alloc (.cells #[.int .i64 0, .int .i64 0, .slice none 0 0] 29) = w2 := ⟨_, rfl⟩
  rw [hw2] at hbx
  have hcap := h.ok.room a b
  have hm := h.ok.m1000
  have HBX := Lib.hid hbx
  have H0 := Lib.hid h
  have H := Lib.hid (h.after hbx.below)
  have HW2 := Lib.hid hw2
  have HSD := Lib.hid (show s.sendOk a b = (s.good a b && decide ((s.f a b).length < s.m)) from rfl)
  have HS1 := Lib.hid (show ∀ x, s.sendOk a b = x → s.send a b t = if x then s.set a b (s.f a b ++ [t]) else s from fun x e => by unfold NS.send; rw [e])
  have HSO := Lib.hid (show s.sendOk a b = true → (s.send a b t).Ok from fun _ => h.ok.send a b t)
  clear h hbx hw2
  go_enter Try.func14, Try.ntmps14
  go_wp2_with fail
  rw [HW2.out]
  obtain ⟨b0, b1, b2, _, _, _⟩ := three HBX.out.box
  go_wp2_with fail
  refine (ref_row H.out a b (by omega)).mono ?_
  rintro e w3 ⟨A3, c3, K, rfl, hv3, hK3, hb3⟩
  have hbox3 := (hb3.block _ (lt_of_block HBX.out.box)).trans HBX.out.box
  have HV3 := Lib.hid (hv3.after hb3)
  have HK3 := Lib.hid hK3
  have HB3 := Lib.hid hb3
  have H3 := Lib.hid (H.out.after hb3)
  clear hv3 hK3 hb3 b0 b1 b2
  obtain ⟨b0, b1, b2, _, _, _⟩ := three hbox3
  clear hbox3
  go_wp2_with fail
  refine (ref_nodes H3.out a b).mono ?_
  rintro e w4 ⟨rfl, hb4⟩
  have HB4 := Lib.hid (HB3.out.trans (hb4.mono HB3.out.size))
  have HV4 := Lib.hid (HV3.out.after hb4)
  have H4 := Lib.hid (H3.out.after hb4)
  have hbox4 := (HB4.out.block _ (lt_of_block HBX.out.box)).trans HBX.out.box
  have hres4 := (HB4.out.block _ (lt_of_block HBX.out.res)).trans HBX.out.res
  have HBOX := Lib.hid hbox4
  have HRES := Lib.hid hres4
  clear b0 b1 b2 hb4
  obtain ⟨b0, b1, b2, _, _, _⟩ := three hbox4
  obtain ⟨_, _, _, g0, g1, g2⟩ := three hres4
  have hbw : Below w.heap.size w w4 := HBX.out.below.trans (HB4.out.mono (by have := HBX.out.sz; omega))
  have HBW := Lib.hid hbw
  have hsz4 : w.heap.size + 2 ≤ w4.heap.size := by have := HB4.out.size; have := HBX.out.sz; omega
  clear hbox4 hres4 hbw
  generalize hxs : s.f a b = xs at *
  have HXS := Lib.hid hxs
  clear hxs
  have hno : s.sendOk a b = false → ∀ wf, Kept [w.heap.size + 1] w4 wf → PutSaid w G (s.send a b t) ws.length (s.sendOk a b) (.returned (.tuple #[.agg #[.int .i64 (s.n : Int), .int .i64 (s.m : Int), .slice W ws.length c], .bool false])) wf := by
    intro e wf hk
    rw [e, HS1.out _ e]
    refine ⟨_, W, c, ws, G, rfl, ?_, by omega, fun k hk => .inl hk, HBW.out.trans (hk.below HBW.out.size (by simp))⟩
    exact H4.out.kept hk (fun k hk2 => by have := H0.out.lt k hk2; simp; omega)
  have HNO := Lib.hid hno
  clear hno
  cases hg : s.good a b
  · have HSF := Lib.hid (show s.sendOk a b = false from by rw [HSD.out, hg]; rfl)
    clear hg
    go_wp2_with fail
    have q := three_set HRES.out (.int .i64 (s.n : Int)) (.int .i64 (s.m : Int)) (.slice W ws.length c)
    refine ret_row2 Try.results14 (w.heap.size + 1) _ _ _ _ rfl q.1 rfl Try.underlying29 rfl (by kernel_rfl) rfl ?_
    exact HNO.out HSF.out _ q.2
  · by_cases hfull : s.m ≤ xs.length
    · have HSF := Lib.hid (show s.sendOk a b = false from by rw [HSD.out, hg]; simp; omega)
      have hd : decide (s.m ≤ xs.length) = true := by simpa using hfull
      clear hg hfull
      go_wp2_with fail
      have q := three_set HRES.out (.int .i64 (s.n : Int)) (.int .i64 (s.m : Int)) (.slice W ws.length c)
      refine ret_row2 Try.results14 (w.heap.size + 1) _ _ _ _ rfl q.1 rfl Try.underlying29 rfl (by kernel_rfl) rfl ?_
      exact HNO.out HSF.out _ q.2
    · have hst : s.sendOk a b = true := by rw [HSD.out, hg]; simp; omega
      have HSF := Lib.hid hst
      have hok := HSO.out hst
      have he := HS1.out _ hst
      rw [if_pos rfl] at he
      rw [he] at hok
      obtain ⟨ys, hys⟩ : ∃ ys, xs ++ [t] = ys := ⟨_, rfl⟩
      rw [hys] at he hok
      have HYS := Lib.hid hys
      have HYL := Lib.hid (show ys.length = xs.length + 1 from by rw [← hys]; simp)
      have HE := Lib.hid he
      have HOK := Lib.hid hok
      have hd : decide (s.m ≤ xs.length) = false := by simp; omega
      have hx1000 : xs.length ≤ 1000 := by omega
      clear hg hfull hst hok he hys
      go_wp2_with fail
      clear b0 b1 b2 g0 g1 g2
      refine' wp_flow [only 0 (.agg #[.int .i64 (s.n : Int), .int .i64 (s.m : Int), .slice W ws.length c]), only 1 _, only 2 _, own 3 (fun y v => ∃ b, y = .slice (some ⟨b, 0, none⟩) 0 0 ∧ w4.heap.size ≤ b ∧ Vec v [b] 1 (some ⟨b, 0, none⟩) 0 0 [] ∧ v.heap[b]? = some (.cells #[] 9 (0, 0))), only 4 _, own 5 (fun y v => ∃ F A5 c5, y = .slice A5 xs.length c5 ∧ Vec v F 1 A5 xs.length c5 (xs.map .string) ∧ ∀ k, k ∈ F → w4.heap.size ≤ k), only 6 _, own 7 (fun y v => ∃ b, y = .slice (some ⟨b, 0, none⟩) 1 1 ∧ w4.heap.size ≤ b ∧ v.heap[b]? = some (.cells #[.string t] 9 (0, 0))), own 8 (fun y v => ∃ F A5 c5, y = .slice A5 ys.length c5 ∧ Vec v F 1 A5 ys.length c5 (ys.map .string) ∧ ∀ k, k ∈ F → w4.heap.size ≤ k), own 9 (fun y v => ∃ W' c' ws' G', RefNet v G' y (s.set a b ys) W' c' ws' ∧ ws'.length ≤ ws.length + 1 ∧ ∀ k, k ∈ G' → k ∈ G ∨ w4.heap.size ≤ k), (fun us v => ∃ W' c' ws' G' x2, RefNet v G' (.agg #[.int .i64 (s.n : Int), .int .i64 (s.m : Int), x2]) (s.set a b ys) W' c' ws' ∧ ws'.length ≤ ws.length + 1 ∧ (∀ k, k ∈ G' → k ∈ G ∨ w4.heap.size ≤ k) ∧ v.heap[w.heap.size + 1]? = some (.cells #[.int .i64 (s.n : Int), .int .i64 (s.m : Int), x2] 29 (0, 0))), only 11 _, (fun _ v => v.heap[w.heap.size + 1]? = some (.cells #[.int .i64 0, .int .i64 0, .slice none 0 0] 29 (0, 0)))] (fun v => Kept [w.heap.size + 1] w4 v) [[], [], [], [], [], [3, 4], [], [6], [5, 7], [0, 1, 2, 8], [9, 12], []] [[], [], [], [], [], [3], [], [], [5, 7], [8], [9, 12], []] [[], [], [], [], [], [], [], [], [], [], [], []] [[3, 5, 7, 8, 12], [3, 5, 7, 8, 12], [3, 5, 7, 8, 12], [7, 12], [3, 7, 12], [7, 12], [3, 5, 12], [3, 5, 12], [12], [12], [], [3, 5, 7, 8, 9, 10, 12]] [3, 5, 7, 8, 9, 10, 12] [0, 0, 0, 0, 0, 24, 0, 64, 248, 511, 1023, 0] _ (fun us => ?hfr) (by kernel_rfl) (by kernel_rfl) (by kernel_rfl) ⟨only_still _, only_still _, only_still _, trivial, only_still _, trivial, only_still _, trivial, trivial, trivial, trivial, only_still _, trivial, trivial⟩ ((Kept.refl _ w4).drew) (by simp) (HRES.out) ?hst ?hla
      case hfr => (simp only [List.cons_append, List.nil_append, putAll, Act.put, List.setIfInBounds_toArray, List.set_cons_zero, List.set_cons_succ, Nat.reduceAdd]; rfl)
      case hst =>
        refine ⟨?_, ?_, ?_, ?_, ?_, ?_, ?_, ?_, ?_, ?_, ?_, ?_, trivial⟩
        · intro us v hR hn ho K hK
          clear ho
          obtain ⟨b0, b1, b2, _, _, _⟩ := three ((hR.block w.heap.size (by omega) (by simp)).trans HBOX.out)
          rw [if_pos (by rfl)]
          go_simp
          refine hK _ _ _ (by simp only [Act.put, List.setIfInBounds_toArray, List.set_cons_zero, List.set_cons_succ, Nat.reduceAdd] <;> rfl) ?_ hR ⟨fun h => h, fun h => h, fun h => h, fun h => h, fun h => h, trivial⟩
          refine only_mk (v := v) ?_
          with_reducible rfl
        · intro us v hR hn ho K hK
          clear ho
          obtain ⟨b0, b1, b2, _, _, _⟩ := three ((hR.block w.heap.size (by omega) (by simp)).trans HBOX.out)
          rw [if_pos (by rfl)]
          go_simp
          refine hK _ _ _ (by simp only [Act.put, List.setIfInBounds_toArray, List.set_cons_zero, List.set_cons_succ, Nat.reduceAdd] <;> rfl) ?_ hR ⟨fun h => h, fun h => h, fun h => h, fun h => h, fun h => h, trivial⟩
          refine only_mk (v := v) ?_
          with_reducible rfl
        · intro us v hR hn ho K hK
          clear ho
          obtain ⟨b0, b1, b2, _, _, _⟩ := three ((hR.block w.heap.size (by omega) (by simp)).trans HBOX.out)
          rw [if_pos (by rfl)]
          go_simp
          refine hK _ _ _ (by simp only [Act.put, List.setIfInBounds_toArray, List.set_cons_zero, List.set_cons_succ, Nat.reduceAdd] <;> rfl) ?_ hR ⟨fun h => h, fun h => h, fun h => h, fun h => h, fun h => h, trivial⟩
          refine only_mk (v := v) ?_
          with_reducible rfl
        · intro us v hR hn ho K hK
          clear ho
          obtain ⟨b0, b1, b2, _, _, _⟩ := three ((hR.block w.heap.size (by omega) (by simp)).trans HBOX.out)
          rw [if_pos (by rfl)]
          go_simp
          obtain ⟨b, hb1, hb2, hb3⟩ := empty_cells v 9
          refine hK _ _ _ (by simp only [Act.put, List.setIfInBounds_toArray, List.set_cons_zero, List.set_cons_succ, Nat.reduceAdd] <;> rfl) ⟨b, by rw [hb1]; rfl, by rw [hb1]; exact hR.size, hb2, hb3⟩ (hR.alloc _) ⟨fun ⟨b, q1, q2, q3⟩ => ⟨b, q1, q2, (Below.heap_alloc _ _ _ (lt_of_block q3)).trans q3⟩, fun h => (Below.heap_alloc _ _ _ (lt_of_block h)).trans h, trivial⟩
        · intro us v hR hn ho K hK
          clear ho
          obtain ⟨b0, b1, b2, _, _, _⟩ := three ((hR.block w.heap.size (by omega) (by simp)).trans HBOX.out)
          rw [if_pos (by rfl)]
          go_simp
          refine hK _ _ _ (by simp only [Act.put, List.setIfInBounds_toArray, List.set_cons_zero, List.set_cons_succ, Nat.reduceAdd] <;> rfl) ?_ hR ⟨fun h => h, fun h => h, fun h => h, trivial⟩
          refine only_mk (v := v) ?_
          with_reducible rfl
        · intro us v hR hn ho K hK
          obtain ⟨n3, n4, -⟩ := hn
          have n4 : us 4 = _ := n4
          clear ho
          obtain ⟨b0, b1, b2, _, _, _⟩ := three ((hR.block w.heap.size (by omega) (by simp)).trans HBOX.out)
          obtain ⟨b3, n3, hb3, hvb, hbc⟩ := n3
          refine step_append_vec _ (by rfl) (.tmp 31) (.tmp 32) 41 41 (by rfl) 9 i0 _ 1 16 Try.underlying41 hi0 hz0 hz1 hz2 rfl [b3] (some ⟨b3, 0, none⟩) 0 0 [] _ xs.length (xs.map .string) n3 n4 hvb ((HV4.out.kept hR (fun k hk => by have := H.out.lt k (HK3.out k hk); have := H0.out.lt k (HK3.out k hk); simp; omega)).src Try.underlying41 (by simp [Value.oneCell'])) (by unfold maxLen; omega) (by omega) ?_
          intro v' w5 happ
          rw [Nat.zero_add, List.nil_append] at happ
          obtain ⟨F5, A5, c5, rfl, hv5, ht5⟩ := happ.all
          refine hK _ _ _ (by simp only [Act.put, List.setIfInBounds_toArray, List.set_cons_zero, List.set_cons_succ, Nat.reduceAdd, n4, n3, n4] <;> rfl) ⟨F5, A5, c5, rfl, hv5, fun k hk => ?_⟩ (kept_fresh hR ht5.kept (by simp; omega)) ⟨fun ⟨d, q1, q2, q3⟩ => ⟨d, q1, q2, (ht5.kept.block d (lt_of_block q3) (by simp only [List.mem_singleton]; exact b_ne hbc q3)).trans q3⟩, fun h => (ht5.kept.block _ (lt_of_block h) (by simp; omega)).trans h, trivial⟩
          · rcases ht5.new k hk with h9 | h9
            · simp at h9; omega
            · have := hR.size; omega
        · intro us v hR hn ho K hK
          clear ho
          obtain ⟨b0, b1, b2, _, _, _⟩ := three ((hR.block w.heap.size (by omega) (by simp)).trans HBOX.out)
          rw [if_pos (by rfl)]
          go_simp
          refine hK _ _ _ (by simp only [Act.put, List.setIfInBounds_toArray, List.set_cons_zero, List.set_cons_succ, Nat.reduceAdd] <;> rfl) ?_ hR ⟨fun h => h, fun h => h, fun h => h, trivial⟩
          refine only_mk (v := v) ?_
          with_reducible rfl
        · intro us v hR hn ho K hK
          obtain ⟨n6, -⟩ := hn
          have n6 : us 6 = _ := n6
          clear ho
          obtain ⟨b0, b1, b2, _, _, _⟩ := three ((hR.block w.heap.size (by omega) (by simp)).trans HBOX.out)
          rw [if_pos (by rfl)]
          go_simp
          refine hK _ _ _ (by simp only [Act.put, List.setIfInBounds_toArray, List.set_cons_zero, List.set_cons_succ, Nat.reduceAdd, n6] <;> rfl) ⟨v.heap.size, rfl, hR.size, heap_alloc_new v _⟩ (hR.alloc _) ⟨fun ⟨b, q1, q2, q3, q4⟩ => ⟨b, q1, q2, q3.alloc _, (Below.heap_alloc _ _ _ (lt_of_block q4)).trans q4⟩, fun ⟨F, A5, c5, q1, q2, q3⟩ => ⟨F, A5, c5, q1, q2.alloc _, q3⟩, fun h => (Below.heap_alloc _ _ _ (lt_of_block h)).trans h, trivial⟩
        · intro us v hR hn ho K hK
          obtain ⟨n5, n7, -⟩ := hn
          clear ho
          obtain ⟨b0, b1, b2, _, _, _⟩ := three ((hR.block w.heap.size (by omega) (by simp)).trans HBOX.out)
          obtain ⟨F5, A5, c5, n5, hv5, hF5⟩ := n5
          obtain ⟨b7, n7, hb7, hbc7⟩ := n7
          refine step_append_vec _ (by rfl) (.tmp 33) (.tmp 35) 41 41 (by rfl) 9 i0 _ 1 16 Try.underlying41 hi0 hz0 hz1 hz2 rfl F5 A5 xs.length c5 (xs.map .string) _ 1 [.string t] n5 n7 hv5 (src_new v Try.underlying41 [.string t] 1 1 1 rfl (by simp [Value.oneCell']) b7 hbc7) (by unfold maxLen; omega) (by omega) ?_
          intro v' w5 happ
          obtain ⟨F6, A6, c6, rfl, hv6, ht6⟩ := happ.all
          refine hK _ _ _ (by simp only [Act.put, List.setIfInBounds_toArray, List.set_cons_zero, List.set_cons_succ, Nat.reduceAdd, n5, n7] <;> rfl) ⟨F6, A6, c6, (by rw [HYL.out]; rfl), (by rw [HYL.out, ← HYS.out]; simpa using hv6), fun k hk => ?_⟩ (kept_fresh hR ht6.kept hF5) ⟨fun h => (ht6.kept.block _ (lt_of_block h) (fun hm => by have := hF5 _ hm; omega)).trans h, trivial⟩
          rcases ht6.new k hk with h9 | h9
          · exact hF5 k h9
          · have := hR.size; omega
        · intro us v hR hn ho K hK
          obtain ⟨n0, n1, n2, n8, -⟩ := hn
          have n0 : us 0 = _ := n0
          have n1 : us 1 = _ := n1
          have n2 : us 2 = _ := n2
          clear ho
          obtain ⟨b0, b1, b2, _, _, _⟩ := three ((hR.block w.heap.size (by omega) (by simp)).trans HBOX.out)
          obtain ⟨F6, A6, c6, n8, hv6, hF6⟩ := n8
          have hR4 : RefNet v G (.agg #[.int .i64 (s.n : Int), .int .i64 (s.m : Int), .slice W ws.length c]) s W c ws := H4.out.kept hR (fun k hk2 => by have := H0.out.lt k hk2; simp; omega)
          rw [if_pos (by rfl)]
          clear b0 b1 b2
          go_simp
          refine (ref_with hR4 a b hv6 HOK.out (by omega)).mono ?_
          rintro e v' ⟨y, W', c', ws', G', rfl, hy, hl', hG', hb'⟩
          dsimp only
          exact hK _ _ _ (by simp only [Act.put, List.setIfInBounds_toArray, List.set_cons_zero, List.set_cons_succ, Nat.reduceAdd, n0, n1, n2, n8] <;> rfl) ⟨W', c', ws', G', hy, hl', fun k hk => (hG' k hk).elim .inl (fun h => .inr (h.elim (hF6 k) fun h => Nat.le_trans hR.size h))⟩ (kept_fresh hR (Kept.of_below hb' []) (by simp)) ⟨fun h => (hb'.block _ (lt_of_block h)).trans h, trivial⟩
        · intro us v hR hn ho K hK
          obtain ⟨n9, ns, -⟩ := hn
          clear ho
          obtain ⟨b0, b1, b2, _, _, _⟩ := three ((hR.block w.heap.size (by omega) (by simp)).trans HBOX.out)
          obtain ⟨W', c', ws', G', hy, hl', hG'⟩ := n9
          have hres : v.heap[w.heap.size + 1]? = some (.cells #[.int .i64 0, .int .i64 0, .slice none 0 0] 29 (0, 0)) := ns
          have n9 := hy.v
          rw [if_pos (by rfl)]
          refine wp_store_all 29 (.tmp 8) (.tmp 37) (by rfl) (w.heap.size + 1) _ _ _ (by rfl) n9 hres rfl (by kernel_rfl) (by simp [Value.oneCell']) ?_
          intro v' hq hk
          rw [n9] at hy
          refine hK undef _ _ (by simp only [Act.put, List.setIfInBounds_toArray, List.set_cons_zero, List.set_cons_succ, Nat.reduceAdd, n9] <;> rfl) ⟨W', c', ws', G', _, hy.kept hk (fun k hk2 => ?_), hl', hG', hq⟩ (hR.trans hk) trivial
          rcases hG' k hk2 with h | h
          · have := H0.out.lt k h; simp; omega
          · simp; omega
        · intro us v hR hn ho K hK
          clear ho
          obtain ⟨b0, b1, b2, _, _, _⟩ := three ((hR.block w.heap.size (by omega) (by simp)).trans HBOX.out)
          rw [if_pos (by rfl)]
          go_simp
          refine hK _ _ _ (by simp only [Act.put, List.setIfInBounds_toArray, List.set_cons_zero, List.set_cons_succ, Nat.reduceAdd] <;> rfl) ?_ hR ⟨fun h => h, fun h => h, fun h => h, fun h => h, fun h => h, fun h => h, fun h => h, trivial⟩
          refine only_mk (v := v) ?_
          with_reducible rfl
      case hla =>
        intro us v hR hl
        obtain ⟨n0, n1, n2, n4, n6, n10, n11, -⟩ := need_last hl [0, 1, 2, 4, 6, 10, 11] (by kernel_rfl)
        have n0 : us 0 = _ := n0
        have n1 : us 1 = _ := n1
        have n2 : us 2 = _ := n2
        have n4 : us 4 = _ := n4
        have n6 : us 6 = _ := n6
        have n11 : us 11 = _ := n11
        obtain ⟨b0, b1, b2, _, _, _⟩ := three ((hR.block w.heap.size (by omega) (by simp)).trans HBOX.out)
        simp only [n0, n1, n2, n4, n6, n11]
        clear hl n0 n1 n2 n4 n6 n11
        obtain ⟨W', c', ws', G', x2, hy, hl', hG', hq⟩ := n10
        have HY := Lib.hid hy
        have HQ := Lib.hid hq
        have HRR := Lib.hid hR
        clear hy hq hR
        go_wp2_with fail
        refine ret_row2 Try.results14 (w.heap.size + 1) _ _ _ _ rfl HQ.out rfl Try.underlying29 rfl (by kernel_rfl) rfl ?_
        have hfin : PutSaid w G (s.send a b t) ws.length (s.sendOk a b) (.returned (.tuple #[.agg #[.int .i64 (s.n : Int), .int .i64 (s.m : Int), x2], .bool true])) v := by
          rw [HSF.out, HE.out]
          exact ⟨_, W', c', ws', G', rfl, HY.out, hl', fun k hk => (hG' k hk).imp id (fun h => by omega), HBW.out.trans (HRR.out.below HBW.out.size (by simp))⟩
        exact hfin
set_option maxRecDepth 100000 in
set_option maxHeartbeats 8000000 in
theorem ref_double (h : RefNet w G v s W c ws) (a b k : Int) (hl : ws.length ≤ 900) :
    Calls Try.prog 16 #[v, .int .i64 a, .int .i64 b, .int .i64 k] w (PutSaid w G (s.double a b k) ws.length (s.doubleOk a b k)) := by
  have hv := h.v
  subst hv
  have hbx := boxes w (.int .i64 (s.n : Int)) (.int .i64 (s.m : Int)) (.slice W ws.length c)
  obtain ⟨w2, hw2⟩ : ∃ w2, (w.alloc (.cells #[.int .i64 (s.n : Int), .int .i64 (s.m : Int), .slice W ws.length c] 29)).alloc (.cells #[.int .i64 0, .int .i64 0, .slice none 0 0] 29) = w2 := ⟨_, rfl⟩
  rw [hw2] at hbx
  have HBX := Lib.hid hbx
  have H0 := Lib.hid h
  have H := Lib.hid (h.after hbx.below)
  have HW2 := Lib.hid hw2
  have HD1 := Lib.hid (show ∀ x, s.isAt a b k = x → s.double a b k = (if x then s.send a b (s.look a b k) else s) ∧ s.doubleOk a b k = (x && s.sendOk a b) from fun x e => by unfold NS.double NS.doubleOk; rw [e]; exact ⟨rfl, rfl⟩)
  clear h hbx hw2
  go_enter Try.func16, Try.ntmps16
  go_wp2_with fail
  rw [HW2.out]
  obtain ⟨b0, b1, b2, _, _, _⟩ := three HBX.out.box
  go_wp2_with fail
  refine (ref_look H.out a b k (by omega)).mono ?_
  rintro e w4 ⟨rfl, hb4⟩
  have HB4 := Lib.hid hb4
  have H4 := Lib.hid (H.out.after hb4)
  have hbox4 := (hb4.block _ (lt_of_block HBX.out.box)).trans HBX.out.box
  have hres4 := (hb4.block _ (lt_of_block HBX.out.res)).trans HBX.out.res
  have HRES := Lib.hid hres4
  clear b0 b1 b2 hb4
  obtain ⟨b0, b1, b2, _, _, _⟩ := three hbox4
  obtain ⟨_, _, _, g0, g1, g2⟩ := three hres4
  have hbw : Below w.heap.size w w4 := HBX.out.below.trans (HB4.out.mono (by have := HBX.out.sz; omega))
  have HBW := Lib.hid hbw
  have hsz4 : w.heap.size + 2 ≤ w4.heap.size := by have := HB4.out.size; have := HBX.out.sz; omega
  have HBOX := Lib.hid hbox4
  clear hbox4 hres4 hbw
  cases hk : s.isAt a b k
  · have HK := Lib.hid (HD1.out _ hk)
    clear hk
    go_wp2_with fail
    have q := three_set HRES.out (.int .i64 (s.n : Int)) (.int .i64 (s.m : Int)) (.slice W ws.length c)
    refine ret_row2 Try.results16 (w.heap.size + 1) _ _ _ _ rfl q.1 rfl Try.underlying29 rfl (by kernel_rfl) rfl ?_
    have hfin : ∀ wf, Kept [w.heap.size + 1] w4 wf → PutSaid w G (s.double a b k) ws.length (s.doubleOk a b k) (.returned (.tuple #[.agg #[.int .i64 (s.n : Int), .int .i64 (s.m : Int), .slice W ws.length c], .bool false])) wf := by
      intro wf hkf
      rw [HK.out.1, HK.out.2]
      exact ⟨_, W, c, ws, G, rfl, H4.out.kept hkf (fun k hk2 => by have := H0.out.lt k hk2; simp; omega), by omega, fun k hk => .inl hk, HBW.out.trans (hkf.below HBW.out.size (by simp))⟩
    exact hfin _ q.2
  · have HK := Lib.hid (HD1.out _ hk)
    clear hk
    generalize s.look a b k = t at *
    go_wp2_with fail
    refine (ref_send H4.out a b t hl).mono ?_
    rintro e w5 ⟨y, W', c', ws', G', rfl, hy, hl', hG', hb5⟩
    have hyv := hy.v
    subst hyv
    have HY := Lib.hid hy
    have hres5 := (hb5.block _ (lt_of_block HRES.out)).trans HRES.out
    have HR5 := Lib.hid hres5
    have HB5 := Lib.hid hb5
    clear b0 b1 b2 g0 g1 g2 hy hb5
    obtain ⟨_, _, _, g0, g1, g2⟩ := three hres5
    obtain ⟨_, _, _, _, _, _⟩ := three hres5
    clear hres5
    have HBL := Lib.hid (show ∀ x, x = s.sendOk a b → x = s.sendOk a b from fun _ h => h)
    generalize hok : s.sendOk a b = ok at *
    have HOK := Lib.hid hok
    clear hok
    have HN := Lib.hid (show (s.send a b t).n = s.n ∧ (s.send a b t).m = s.m from by unfold NS.send; split <;> exact ⟨rfl, rfl⟩)
    go_wp2_with fail
    have q := three_set HR5.out (.int .i64 ((s.send a b t).n : Int)) (.int .i64 ((s.send a b t).m : Int)) (.slice W' ws'.length c')
    refine ret_row2 Try.results16 (w.heap.size + 1) _ _ _ _ rfl q.1 rfl Try.underlying29 rfl (by kernel_rfl) rfl ?_
    have hfin : ∀ wf, Kept [w.heap.size + 1] w5 wf → PutSaid w G (s.double a b k) ws.length (s.doubleOk a b k) (.returned (.tuple #[.agg #[.int .i64 ((s.send a b t).n : Int), .int .i64 ((s.send a b t).m : Int), .slice W' ws'.length c'], .bool ok])) wf := by
      intro wf hkf
      rw [HK.out.1, HK.out.2]
      have hb45 := HBW.out.trans (HB5.out.mono HBW.out.size)
      refine ⟨_, W', c', ws', G', rfl, HY.out.kept hkf (fun k hk2 => ?_), hl', fun k hk2 => (hG' k hk2).imp id (fun h => by omega), hb45.trans (hkf.below hb45.size (by simp))⟩
      rcases hG' k hk2 with h | h
      · have := H0.out.lt k h; simp; omega
      · simp; omega
    exact hfin _ q.2
end
end Go.Proofs.Ytndiclkfincbgaa.Net
