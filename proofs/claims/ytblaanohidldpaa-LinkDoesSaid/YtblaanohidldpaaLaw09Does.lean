/- Layer 9: the walk of LinkDoes. Conditions: the slice of acts lies in memory that came in. -/
import Derived.Test.YtblaanohidldpaaLinkDoe
import Derived.Test.YtblaanohidldpaaLaw09Epochs
import Derived.Deep.DeepCutAuto
import Derived.Deep.CutBlock
namespace Go.Proofs.Ytblaanohidldpaa.Link
set_option linter.unusedSimpArgs false
set_option linter.unusedVariables false
open Go.RowKit
theorem ticked_bodies (x : LE) : x.ticked.bodies = x.bodies := by unfold LE.ticked; split <;> (try split) <;> rfl
structure DoSt (w : World) (p b : Nat) (wr : World) : Prop where
  all : ∃ x F G A c, Doe w p b F G x x A c wr
theorem DoSt.mk' {w wr : World} {p b : Nat} {x : LE} {F G : List Nat} {A : Option Addr} {c : Nat} (h : Doe w p b F G x x A c wr) : DoSt w p b wr := ⟨x, F, G, A, c, h⟩
set_option maxRecDepth 100000 in
set_option maxHeartbeats 80000000 in
theorem does_walk (epoch first window queue wait : Int) (hu : u first = first) (A : Option Addr) (c : Nat) (l : List Act9) (w : World) (hA : Sl w 0 w.heap.size 9 A l.length (l.flatMap Act9.cells)) (hy : l.length ≤ maxLen) (hgood : ∀ a ∈ l, a.Good) :
    Calls Try.prog 4 #[.int .i64 epoch, .int .u64 first, .int .i64 window, .int .i64 queue, .int .i64 wait, .slice A l.length c] w fun e w' => e = .returned (.bool true) ∧ Below w.heap.size w w' := by
  have hy' := hy
  unfold maxLen at hy
  have HU := Lib.hid hu
  have HGOOD := Lib.hid hgood
  clear hu hgood
  go_enter Try.func4, Try.ntmps4
  go_wp2_with fail
  refine (new_at epoch first window queue wait HU.out _).mono ?_
  rintro e w2 ⟨p, rfl, hp, h2, hbw⟩
  go_wp2_with fail
  refine (awake_any _).mono ?_
  rintro e w3 ⟨rfl, hb3⟩
  have hbw3 := hbw.trans (hb3.mono hbw.size)
  have h3 := h2.after hb3
  have hA3 := hA.below hbw3 (Nat.le_refl _)
  go_wp2_with fail
  refine (few_any hA3 hy').mono ?_
  rintro e w4 ⟨⟨b0, rfl, hfew⟩, rfl⟩
  have HFEW := Lib.hid hfew
  clear hfew hb3 hA3 h2
  cases b0
  · go_wp2_with fail
    refine (awake_any _).mono ?_
    rintro e w4 ⟨rfl, hb4⟩
    go_wp2_with fail
    go_ret
    exact ⟨rfl, hbw3.trans (hb4.mono hbw3.size)⟩
  · obtain ⟨h80, hshort⟩ := HFEW.out rfl
    clear hshort
    go_wp2_with fail
    refine (ref_new epoch first window queue wait _).mono ?_
    rintro e w5 ⟨rfl, hb5⟩
    have hbod : (new epoch first window queue wait).bodies = [] := rfl
    generalize new epoch first window queue wait = x0 at *
    have hlow : Low w5 [] x0 none 0 := ⟨by rw [hbod]; exact Nat.le_refl _, Nat.zero_le _, fun h => absurd hbod h⟩
    have hb5w := hbw3.trans (hb5.mono hbw3.size)
    have hdoe : Doe w p w5.heap.size [p] [] x0 x0 none 0 (w5.alloc (.cells (ends x0 none 0) 38)) :=
      ⟨(h3.after hb5).after ((Below.refl _ _).alloc (Nat.le_refl _) _), heap_alloc_new w5 _, hlow.alloc _, by simp, by have := h3.lt h3.mem; have := hb5.size; simp; omega, by simp, by simp, by simp; exact hp, hb5w.size, hb5w.alloc hb5w.size _⟩
    have hst : DoSt w p w5.heap.size (w5.alloc (.cells (ends x0 none 0) 38)) := DoSt.mk' hdoe
    have hbsz : w5.heap.size < w5.heap.size + 1 := by omega
    unfold ends at hst ⊢
    have HST := Lib.hid hst
    clear hst hdoe hlow hbod hb5 h3 hbw hp hb5w
    go_wp2_with fail
    clear hbsz
    generalize w5.heap.size = b at *
    go_loopw [15] (fun i wr => ∃ k : Nat, k ≤ l.length ∧ i = .int .i64 (k : Int) ∧ DoSt w p b wr) (fun i _ => l.length - (intOf i).toNat)
    case atStart => exact ⟨0, Nat.zero_le _, rfl, HST.out⟩
    case round =>
      obtain ⟨k, hk, rfl, hr⟩ := hrel
      obtain ⟨x, F, G, A', c', hd⟩ := hr.all
      have HD := Lib.hid hd
      have HR := Lib.hid hr
      have hb := hd.below
      clear hr hd
      by_cases hlt : k < l.length
      · have hA1 := hA.below hb (Nat.le_refl _)
        obtain ⟨g, o, rfl, _, hgl, hat⟩ := acts_at hA1 hlt
        have i0' : (0 : Int) ≤ (k : Int) := by omega
        have i1 : (k : Int) < (l.length : Int) := by omega
        have hbs2 := hb.size
        have HAT := Lib.hid hat
        have HGA := Lib.hid (HGOOD.out l[k] (List.getElem_mem hlt))
        clear hat
        generalize l[k] = a at *
        obtain ⟨aK, aN, aside, aS, ⟨ek, ee, es, ea, eb⟩⟩ := a
        obtain ⟨c0, _, _, c3, c4, c5, c6, c7, c8⟩ := HAT.out
        simp only at c0 c3 c4 c5 c6 c7 c8
        have hgF : g ∉ F := fun hm => by have := HD.out.newF g hm; omega
        have hgb : g ≠ b := by have := HD.out.newb; omega
        go_upto_block 2 with fail
        go_cut [] (fun wx => DoSt w p b wx)
        case first =>
          by_cases hK0 : aK = 0
          · subst hK0
            go_wp2_with fail
            refine (send_any HD.out.e aS).mono ?_
            rintro e w6 ⟨rfl, F6, hx6, ht6⟩
            have hd6 := HD.out.end_ hx6 ht6
            have d3 := (ht6.kept.cell (p := ⟨g, o + k * 9 + 3, none⟩) (by show g < _; omega) hgF).trans c3
            have HD6 := Lib.hid hd6
            have HD3 := Lib.hid d3
            have hbl := lt_of_block hd6.v
            have hgl6 : g < w6.heap.size := Nat.lt_of_lt_of_le hgl hd6.below.size
            have hq := eleven hd6.v
            obtain ⟨z0, z1, z2, z3, z4, z5, z6, z7, z8, z9, z10⟩ := hq
            clear hx6 ht6 hd6 c0 c3 c4 c5 c6 c7 c8
            go_wp2_with fail
            clear z0 z1 z2 z3 z4 z5 z6 z7 z8 z9 z10 d3
            refine' wp_flow [only 0 (.agg #[.int .i64 x.epoch, .int .i64 (x.window : Int), .int .i64 (x.queue : Int), .int .i64 (x.wait : Int), .slice A' x.bodies.length c', .int .u64 x.first, .int .i64 (x.out : Int), .int .i64 (x.ever : Int), .int .u64 x.want, .bool x.owes, .int .i64 (x.age : Int)]), only 1 _, only 2 _, only 3 _, only 4 _, only 5 _, own 6 (fun y v => ∃ A5 c5 G5, y = .tuple #[.agg (ends (x.sent aS) A5 c5), .int .i64 (x.sendE aS)] ∧ Low v G5 (x.sent aS) A5 c5 ∧ ∀ k, k ∈ G5 → k ∈ G ∨ w6.heap.size ≤ k), own 7 (fun y v => ∃ A5 c5 G5, y = .tuple #[.agg (ends (x.sent aS) A5 c5), .int .i64 (x.sendE aS)] ∧ Low v G5 (x.sent aS) A5 c5 ∧ ∀ k, k ∈ G5 → k ∈ G ∨ w6.heap.size ≤ k), own 8 (fun y v => ∃ A5 c5 G5, y = .agg (ends (x.sent aS) A5 c5) ∧ Low v G5 (x.sent aS) A5 c5 ∧ ∀ k, k ∈ G5 → k ∈ G ∨ w6.heap.size ≤ k), only 9 (.int .i64 (x.sendE aS)), own 10 (fun y v => ∃ g, y = .pointer (some ⟨g, 0, none⟩) ∧ w6.heap.size ≤ g ∧ v.heap[g]? = some (.cells zero11 38 (0, 0))), (fun us v => ∃ A5 c5 G5 g, us 8 = .agg (ends (x.sent aS) A5 c5) ∧ us 10 = .pointer (some ⟨g, 0, none⟩) ∧ v.heap[g]? = some (.cells (ends (x.sent aS) A5 c5) 38 (0, 0)) ∧ Low v G5 (x.sent aS) A5 c5 ∧ ∀ k, k ∈ G5 → k ∈ G ∨ w6.heap.size ≤ k), only 12 _] (fun v => Below w6.heap.size w6 v) [[], [], [], [1, 2], [3], [4], [0, 5], [6], [7], [7], [], [8, 10], [9]] [[], [], [], [], [], [], [], [6], [], [], [], [8, 10], []] [[], [], [], [], [], [], [], [], [], [], [], [], []] [[10], [10], [10], [10], [10], [10], [10], [10], [7, 10], [7, 8, 10, 11], [6, 7, 8], [7], [7, 11]] [6, 7, 8, 10, 11] [0, 0, 0, 6, 14, 30, 63, 127, 255, 255, 0, 1535, 4095] _ (fun us => ?hfr) (by kernel_rfl) (by kernel_rfl) (by kernel_rfl) ⟨only_still _, only_still _, only_still _, only_still _, only_still _, only_still _, trivial, trivial, trivial, only_still _, trivial, trivial, only_still _, trivial⟩ (below_drewN (Below.refl w6.heap.size w6) 1) (by simp) (trivial) ?hst ?hla
            case hfr => (simp only [List.cons_append, List.nil_append, putAll, Act.put, List.setIfInBounds_toArray, List.set_cons_zero, List.set_cons_succ, Nat.reduceAdd]; rfl)
            case hst =>
              refine ⟨?_, ?_, ?_, ?_, ?_, ?_, ?_, ?_, ?_, ?_, ?_, ?_, ?_, trivial⟩
              · intro us v hR hn ho K hK
                clear ho
                obtain ⟨z0, z1, z2, z3, z4, z5, z6, z7, z8, z9, z10⟩ := eleven ((hR.block b hbl).trans HD6.out.v); have d3 := (hR.cell (p := ⟨g, o + k * 9 + 3, none⟩) hgl6).trans HD3.out
                rw [if_pos (by rfl)]
                go_simp
                refine hK _ _ _ (by simp only [Act.put, List.setIfInBounds_toArray, List.set_cons_zero, List.set_cons_succ, Nat.reduceAdd] <;> rfl) ?_ hR ⟨fun h => h, trivial⟩
                refine only_mk (v := v) ?_
                with_reducible rfl
              · intro us v hR hn ho K hK
                clear ho
                obtain ⟨z0, z1, z2, z3, z4, z5, z6, z7, z8, z9, z10⟩ := eleven ((hR.block b hbl).trans HD6.out.v); have d3 := (hR.cell (p := ⟨g, o + k * 9 + 3, none⟩) hgl6).trans HD3.out
                rw [if_pos (by rfl)]
                go_simp
                refine hK _ _ _ (by simp only [Act.put, List.setIfInBounds_toArray, List.set_cons_zero, List.set_cons_succ, Nat.reduceAdd] <;> rfl) ?_ hR ⟨fun h => h, trivial⟩
                refine only_mk (v := v) ?_
                with_reducible rfl
              · intro us v hR hn ho K hK
                clear ho
                obtain ⟨z0, z1, z2, z3, z4, z5, z6, z7, z8, z9, z10⟩ := eleven ((hR.block b hbl).trans HD6.out.v); have d3 := (hR.cell (p := ⟨g, o + k * 9 + 3, none⟩) hgl6).trans HD3.out
                rw [if_pos (by rfl)]
                go_simp
                refine hK _ _ _ (by simp only [Act.put, List.setIfInBounds_toArray, List.set_cons_zero, List.set_cons_succ, Nat.reduceAdd] <;> rfl) ?_ hR ⟨fun h => h, trivial⟩
                refine only_mk (v := v) ?_
                with_reducible rfl
              · intro us v hR hn ho K hK
                obtain ⟨n1, n2, -⟩ := hn
                have n1 : us 1 = _ := n1
                have n2 : us 2 = _ := n2
                clear ho
                obtain ⟨z0, z1, z2, z3, z4, z5, z6, z7, z8, z9, z10⟩ := eleven ((hR.block b hbl).trans HD6.out.v); have d3 := (hR.cell (p := ⟨g, o + k * 9 + 3, none⟩) hgl6).trans HD3.out
                rw [if_pos (by rfl)]
                go_simp
                refine hK _ _ _ (by simp only [Act.put, List.setIfInBounds_toArray, List.set_cons_zero, List.set_cons_succ, Nat.reduceAdd, n1, n2] <;> rfl) ?_ hR ⟨fun h => h, trivial⟩
                refine only_mk (v := v) ?_
                with_reducible rfl
              · intro us v hR hn ho K hK
                obtain ⟨n3, -⟩ := hn
                have n3 : us 3 = _ := n3
                clear ho
                obtain ⟨z0, z1, z2, z3, z4, z5, z6, z7, z8, z9, z10⟩ := eleven ((hR.block b hbl).trans HD6.out.v); have d3 := (hR.cell (p := ⟨g, o + k * 9 + 3, none⟩) hgl6).trans HD3.out
                rw [if_pos (by rfl)]
                go_simp
                refine hK _ _ _ (by simp only [Act.put, List.setIfInBounds_toArray, List.set_cons_zero, List.set_cons_succ, Nat.reduceAdd, n3] <;> rfl) ?_ hR ⟨fun h => h, trivial⟩
                refine only_mk (v := v) ?_
                with_reducible rfl
              · intro us v hR hn ho K hK
                obtain ⟨n4, -⟩ := hn
                have n4 : us 4 = _ := n4
                clear ho
                obtain ⟨z0, z1, z2, z3, z4, z5, z6, z7, z8, z9, z10⟩ := eleven ((hR.block b hbl).trans HD6.out.v); have d3 := (hR.cell (p := ⟨g, o + k * 9 + 3, none⟩) hgl6).trans HD3.out
                rw [if_pos (by rfl)]
                go_simp
                refine hK _ _ _ (by simp only [Act.put, List.setIfInBounds_toArray, List.set_cons_zero, List.set_cons_succ, Nat.reduceAdd, n4] <;> rfl) ?_ hR ⟨fun h => h, trivial⟩
                refine only_mk (v := v) ?_
                with_reducible rfl
              · intro us v hR hn ho K hK
                obtain ⟨n0, n5, -⟩ := hn
                have n0 : us 0 = _ := n0
                have n5 : us 5 = _ := n5
                clear ho
                obtain ⟨z0, z1, z2, z3, z4, z5, z6, z7, z8, z9, z10⟩ := eleven ((hR.block b hbl).trans HD6.out.v); have d3 := (hR.cell (p := ⟨g, o + k * 9 + 3, none⟩) hgl6).trans HD3.out
                rw [if_pos (by rfl)]
                clear z0 z1 z2 z3 z4 z5 z6 z7 z8 z9 z10 d3
                go_simp
                refine (ref_send ((HD6.out.low.after hR)) HD.out.e.ok aS).mono ?_
                rintro e v' ⟨A5, c5, G5, rfl, hl5, hG5, hb5⟩
                dsimp only
                exact hK _ _ _ (by simp only [Act.put, List.setIfInBounds_toArray, List.set_cons_zero, List.set_cons_succ, Nat.reduceAdd, n0, n5] <;> rfl) ⟨A5, c5, G5, rfl, hl5, fun k hk => (hG5 k hk).imp id (fun h => Nat.le_trans hR.size h)⟩ (hR.trans (hb5.mono hR.size)) ⟨fun ⟨g, h1, h2, h3⟩ => ⟨g, h1, h2, (hb5.block _ (lt_of_block h3)).trans h3⟩, trivial⟩
              · intro us v hR hn ho K hK
                obtain ⟨n6, -⟩ := hn
                clear ho
                obtain ⟨z0, z1, z2, z3, z4, z5, z6, z7, z8, z9, z10⟩ := eleven ((hR.block b hbl).trans HD6.out.v); have d3 := (hR.cell (p := ⟨g, o + k * 9 + 3, none⟩) hgl6).trans HD3.out
                obtain ⟨A5, c5, G5, e6, k6, t6⟩ := n6
                rw [if_pos (by rfl)]
                go_simp
                refine hK _ _ _ (by simp only [Act.put, List.setIfInBounds_toArray, List.set_cons_zero, List.set_cons_succ, Nat.reduceAdd, e6] <;> rfl) ⟨A5, c5, G5, rfl, k6, t6⟩ hR ⟨fun h => h, trivial⟩
              · intro us v hR hn ho K hK
                obtain ⟨n7, -⟩ := hn
                clear ho
                obtain ⟨z0, z1, z2, z3, z4, z5, z6, z7, z8, z9, z10⟩ := eleven ((hR.block b hbl).trans HD6.out.v); have d3 := (hR.cell (p := ⟨g, o + k * 9 + 3, none⟩) hgl6).trans HD3.out
                obtain ⟨A5, c5, G5, e7, k7, t7⟩ := n7
                rw [if_pos (by rfl)]
                go_simp
                refine hK _ _ _ (by simp only [Act.put, List.setIfInBounds_toArray, List.set_cons_zero, List.set_cons_succ, Nat.reduceAdd, e7] <;> rfl) ⟨A5, c5, G5, rfl, k7, t7⟩ hR ⟨fun h => h, fun h => h, trivial⟩
              · intro us v hR hn ho K hK
                obtain ⟨n7, -⟩ := hn
                clear ho
                obtain ⟨z0, z1, z2, z3, z4, z5, z6, z7, z8, z9, z10⟩ := eleven ((hR.block b hbl).trans HD6.out.v); have d3 := (hR.cell (p := ⟨g, o + k * 9 + 3, none⟩) hgl6).trans HD3.out
                obtain ⟨A5, c5, G5, e7, k7, t7⟩ := n7
                rw [if_pos (by rfl)]
                go_simp
                refine hK _ _ _ (by simp only [Act.put, List.setIfInBounds_toArray, List.set_cons_zero, List.set_cons_succ, Nat.reduceAdd, e7] <;> rfl) (only_mk (v := v) rfl) hR ⟨fun h => h, fun h => h, fun h => h, fun h => h, trivial⟩
              · intro us v hR hn ho K hK
                clear ho
                obtain ⟨z0, z1, z2, z3, z4, z5, z6, z7, z8, z9, z10⟩ := eleven ((hR.block b hbl).trans HD6.out.v); have d3 := (hR.cell (p := ⟨g, o + k * 9 + 3, none⟩) hgl6).trans HD3.out
                rw [if_pos (by rfl)]
                go_simp
                exact hK _ _ _ (by simp only [Act.put, List.setIfInBounds_toArray, List.set_cons_zero, List.set_cons_succ, Nat.reduceAdd] <;> rfl) ⟨v.heap.size, rfl, hR.size, heap_alloc_new v _⟩ (hR.alloc hR.size _) ⟨fun ⟨A5, c5, G5, h1, h2, h3⟩ => ⟨A5, c5, G5, h1, h2.alloc _, h3⟩, fun ⟨A5, c5, G5, h1, h2, h3⟩ => ⟨A5, c5, G5, h1, h2.alloc _, h3⟩, fun ⟨A5, c5, G5, h1, h2, h3⟩ => ⟨A5, c5, G5, h1, h2.alloc _, h3⟩, trivial⟩
              · intro us v hR hn ho K hK
                obtain ⟨n8, n10, -⟩ := hn
                clear ho
                obtain ⟨z0, z1, z2, z3, z4, z5, z6, z7, z8, z9, z10⟩ := eleven ((hR.block b hbl).trans HD6.out.v); have d3 := (hR.cell (p := ⟨g, o + k * 9 + 3, none⟩) hgl6).trans HD3.out
                obtain ⟨A5, c5, G5, e8, k8, t8⟩ := n8
                obtain ⟨g1, e10, hg1, hg2⟩ := n10
                rw [if_pos (by rfl)]
                refine wp_store_all 38 (.tmp 17) (.tmp 115) (by rfl) g1 _ _ _ e10 e8 hg2 rfl (by kernel_rfl) (by simp [ends, Value.oneCell']) ?_
                intro v' hq hk
                exact hK undef _ _ (by simp only [Act.put, List.setIfInBounds_toArray, List.set_cons_zero, List.set_cons_succ, Nat.reduceAdd, e8, e10] <;> rfl) ⟨A5, c5, G5, g1, e8, e10, hq, k8.struck hg2 hk, t8⟩ (hR.trans (hk.below hR.size (by simp; exact hg1))) ⟨fun ⟨A5, c5, G5, h1, h2, h3⟩ => ⟨A5, c5, G5, h1, h2.struck hg2 hk, h3⟩, trivial⟩
              · intro us v hR hn ho K hK
                obtain ⟨n9, -⟩ := hn
                have n9 : us 9 = _ := n9
                clear ho
                obtain ⟨z0, z1, z2, z3, z4, z5, z6, z7, z8, z9, z10⟩ := eleven ((hR.block b hbl).trans HD6.out.v); have d3 := (hR.cell (p := ⟨g, o + k * 9 + 3, none⟩) hgl6).trans HD3.out
                rw [if_pos (by rfl)]
                go_simp
                refine hK _ _ _ (by simp only [Act.put, List.setIfInBounds_toArray, List.set_cons_zero, List.set_cons_succ, Nat.reduceAdd, n9] <;> rfl) ?_ hR ⟨fun h => h, fun h => h, trivial⟩
                refine only_mk (v := v) ?_
                with_reducible rfl
            case hla =>
              intro us v hR hl
              obtain ⟨n0, n1, n2, n3, n4, n5, n7, n9, n11, n12, -⟩ := need_last hl [0, 1, 2, 3, 4, 5, 7, 9, 11, 12] (by kernel_rfl)
              have n0 : us 0 = _ := n0
              have n1 : us 1 = _ := n1
              have n2 : us 2 = _ := n2
              have n3 : us 3 = _ := n3
              have n4 : us 4 = _ := n4
              have n5 : us 5 = _ := n5
              have n9 : us 9 = _ := n9
              have n12 : us 12 = _ := n12
              obtain ⟨z0, z1, z2, z3, z4, z5, z6, z7, z8, z9, z10⟩ := eleven ((hR.block b hbl).trans HD6.out.v); have d3 := (hR.cell (p := ⟨g, o + k * 9 + 3, none⟩) hgl6).trans HD3.out
              simp only [n0, n1, n2, n3, n4, n5, n9, n12]
              clear hl n0 n1 n2 n3 n4 n5 n9 n12
              obtain ⟨A5, c5, G5, g1, e8, e10, hq1, hl1, hG1⟩ := n11
              simp only [e8, e10]
              have q := eleven_set ((hR.block b hbl).trans HD6.out.v) (.int .i64 (x.sent aS).epoch) (.int .i64 ((x.sent aS).window : Int)) (.int .i64 ((x.sent aS).queue : Int)) (.int .i64 ((x.sent aS).wait : Int)) (.slice A5 (x.sent aS).bodies.length c5) (.int .u64 (x.sent aS).first) (.int .i64 ((x.sent aS).out : Int)) (.int .i64 ((x.sent aS).ever : Int)) (.int .u64 (x.sent aS).want) (.bool (x.sent aS).owes) (.int .i64 ((x.sent aS).age : Int))
              obtain ⟨G6, hd7⟩ := HD6.out.put hR hl1 hG1 q.1 q.2
              have HD7 := Lib.hid hd7
              have hHQ := eleven hq1
              have HV := Lib.hid ((hR.block b hbl).trans HD6.out.v)
              obtain ⟨z0, z1, z2, z3, z4, z5, z6, z7, z8, z9, z10⟩ := hHQ
              obtain ⟨_, _, _, _, _, _, _, _, _, _, _⟩ := eleven HV.out
              obtain ⟨_, _, _, _, _, _, _, _, _, _, _⟩ := eleven0 HV.out
              clear q hd7 hl1 hG1 hq1 e8 e10
              go_wp2_with fail
              go_meet
              exact DoSt.mk' HD7.out
          · have q0 : (aK == 0) = false := beq_eq_false_iff_ne.2 hK0
            by_cases hK1 : aK = 1
            · subst hK1
              go_wp2_with fail
              refine (out_any HD.out.e).mono ?_
              rintro e w6 ⟨A6, d6, G6, rfl, hv6, hG6, hx6, ht6⟩
              have hd6 := HD.out.end_ hx6 ht6
              have HD6 := Lib.hid hd6
              have HV6 := Lib.hid hv6
              obtain ⟨z0, z1, z2, z3, z4, z5, z6, z7, z8, z9, z10⟩ := eleven hd6.v
              clear hv6 hx6 ht6 hd6 c0 c3 c4 c5 c6 c7 c8
              go_wp2_with fail
              refine (ref_out HD6.out.low HD.out.e.ok).mono ?_
              rintro e w7 ⟨A7, d7, G7, rfl, hv7, hG7, hb7⟩
              have hd7 := HD6.out.after hb7
              have q := eleven_set hd7.v (.int .i64 x.gone.epoch) (.int .i64 (x.gone.window : Int)) (.int .i64 (x.gone.queue : Int)) (.int .i64 (x.gone.wait : Int)) (.slice A' x.gone.bodies.length c') (.int .u64 x.gone.first) (.int .i64 (x.gone.out : Int)) (.int .i64 (x.gone.ever : Int)) (.int .u64 x.gone.want) (.bool x.gone.owes) (.int .i64 (x.gone.age : Int))
              obtain ⟨G9, hd9⟩ := hd7.put (Below.refl _ _) (hd7.low.same (y := x.gone) rfl) (fun k hk => .inl hk) q.1 q.2
              have hv69 := ((HV6.out.after hb7).kept q.2 (fun k hk => by have := hG6 k hk; have := lt_of_block HD.out.v; simp; omega)).alloc (.cells #[.int .i64 x.gone.epoch, .int .i64 (x.gone.window : Int), .int .i64 (x.gone.queue : Int), .int .i64 (x.gone.wait : Int), .slice A' x.gone.bodies.length c', .int .u64 x.gone.first, .int .i64 (x.gone.out : Int), .int .i64 (x.gone.ever : Int), .int .u64 x.gone.want, .bool x.gone.owes, .int .i64 (x.gone.age : Int)] 38)
              have hv79 := (hv7.kept q.2 (fun k hk => by have := hG7 k hk; have := lt_of_block HD6.out.v; simp; omega)).alloc (.cells #[.int .i64 x.gone.epoch, .int .i64 (x.gone.window : Int), .int .i64 (x.gone.queue : Int), .int .i64 (x.gone.wait : Int), .slice A' x.gone.bodies.length c', .int .u64 x.gone.first, .int .i64 (x.gone.out : Int), .int .i64 (x.gone.ever : Int), .int .u64 x.gone.want, .bool x.gone.owes, .int .i64 (x.gone.age : Int)] 38)
              have hd9b := hd9.after ((Below.refl _ _).alloc (Nat.le_refl _) (.cells #[.int .i64 x.gone.epoch, .int .i64 (x.gone.window : Int), .int .i64 (x.gone.queue : Int), .int .i64 (x.gone.wait : Int), .slice A' x.gone.bodies.length c', .int .u64 x.gone.first, .int .i64 (x.gone.out : Int), .int .i64 (x.gone.ever : Int), .int .u64 x.gone.want, .bool x.gone.owes, .int .i64 (x.gone.age : Int)] 38))
              have hbl7 := lt_of_block hd7.v
              obtain ⟨_, _, _, _, _, _, _, _, _, _, _⟩ := eleven hd7.v
              obtain ⟨_, _, _, _, _, _, _, _, _, _, _⟩ := eleven0 hd7.v
              have HV69 := Lib.hid hv69
              have HV79 := Lib.hid hv79
              have HD9 := Lib.hid hd9b
              clear hv69 hv79 hd9 hd9b q hv7 hd7 z0 z1 z2 z3 z4 z5 z6 z7 z8 z9 z10
              unfold ends
              go_wp2_with fail
              refine (same_is HV69.out HV79.out (goes_short HD.out.e.ok)).mono ?_
              rintro e w8 ⟨rfl, n8, rfl⟩
              go_wp2_with fail
              go_meet
              exact DoSt.mk' (HD9.out.drewN n8)
            · have q1 : (aK == 1) = false := beq_eq_false_iff_ne.2 hK1
              by_cases hK2 : aK = 2
              · subst hK2
                go_wp2_with fail
                refine (tick_any HD.out.e).mono ?_
                rintro e w6 ⟨rfl, hx6, ht6⟩
                have hd6 := HD.out.end_ hx6 ht6
                have HD6 := Lib.hid hd6
                obtain ⟨z0, z1, z2, z3, z4, z5, z6, z7, z8, z9, z10⟩ := eleven hd6.v
                clear hx6 ht6 hd6 c0 c3 c4 c5 c6 c7 c8
                go_wp2_with fail
                refine (ref_tick HD.out.e.ok A' c').mono ?_
                rintro e w7 ⟨rfl, hb7⟩
                have hd7 := HD6.out.after hb7
                have q := eleven_set hd7.v (.int .i64 x.ticked.epoch) (.int .i64 (x.ticked.window : Int)) (.int .i64 (x.ticked.queue : Int)) (.int .i64 (x.ticked.wait : Int)) (.slice A' x.ticked.bodies.length c') (.int .u64 x.ticked.first) (.int .i64 (x.ticked.out : Int)) (.int .i64 (x.ticked.ever : Int)) (.int .u64 x.ticked.want) (.bool x.ticked.owes) (.int .i64 (x.ticked.age : Int))
                obtain ⟨G9, hd9⟩ := hd7.put (Below.refl _ _) (hd7.low.same (y := x.ticked) (ticked_bodies x)) (fun k hk => .inl hk) q.1 q.2
                have HD9 := Lib.hid hd9
                obtain ⟨_, _, _, _, _, _, _, _, _, _, _⟩ := eleven hd7.v
                obtain ⟨_, _, _, _, _, _, _, _, _, _, _⟩ := eleven0 hd7.v
                clear hd7 q hd9 z0 z1 z2 z3 z4 z5 z6 z7 z8 z9 z10
                unfold ends
                go_wp2_with fail
                go_meet
                exact DoSt.mk' HD9.out
              · have q2 : (aK == 2) = false := beq_eq_false_iff_ne.2 hK2
                go_wp2_with fail
                refine (take_any HD.out.e ⟨ek, ee, es, ea, eb⟩).mono ?_
                rintro e w6 ⟨rfl, hx6, ht6⟩
                have hd6 := HD.out.end_ hx6 ht6
                have hgs : ∀ i, w6.cell? ⟨g, i, none⟩ = wr.cell? ⟨g, i, none⟩ := fun i => ht6.kept.cell (p := ⟨g, i, none⟩) (by show g < _; omega) hgF
                have HAT6 := Lib.hid (show ActAt w6 g (o + k * 9) _ from ⟨(hgs _).trans HAT.out.c0, (hgs _).trans HAT.out.c1, (hgs _).trans HAT.out.c2, (hgs _).trans HAT.out.c3, (hgs _).trans HAT.out.c4, (hgs _).trans HAT.out.c5, (hgs _).trans HAT.out.c6, (hgs _).trans HAT.out.c7, (hgs _).trans HAT.out.c8⟩)
                have HD6 := Lib.hid hd6
                have hbl := lt_of_block hd6.v
                have hgl6 : g < w6.heap.size := Nat.lt_of_lt_of_le hgl hd6.below.size
                obtain ⟨z0, z1, z2, z3, z4, z5, z6, z7, z8, z9, z10⟩ := eleven hd6.v
                clear hx6 ht6 hd6 hgs c0 c3 c4 c5 c6 c7 c8
                go_wp2_with fail
                clear z0 z1 z2 z3 z4 z5 z6 z7 z8 z9 z10
                refine' wp_flow [only 0 (.agg #[.int .i64 x.epoch, .int .i64 (x.window : Int), .int .i64 (x.queue : Int), .int .i64 (x.wait : Int), .slice A' x.bodies.length c', .int .u64 x.first, .int .i64 (x.out : Int), .int .i64 (x.ever : Int), .int .u64 x.want, .bool x.owes, .int .i64 (x.age : Int)]), only 1 _, only 2 _, only 3 _, only 4 _, only 5 (.agg #[.int .i64 ek, .int .i64 ee, .int .u64 es, .int .u64 ea, .string eb]), own 6 (fun y v => ∃ A5 c5, y = .tuple #[.agg (ends (x.taken ⟨ek, ee, es, ea, eb⟩) A5 c5), .string (x.told ⟨ek, ee, es, ea, eb⟩), .bool (x.isNext ⟨ek, ee, es, ea, eb⟩)] ∧ Low v G (x.taken ⟨ek, ee, es, ea, eb⟩) A5 c5), own 7 (fun y v => ∃ A5 c5, y = .tuple #[.agg (ends (x.taken ⟨ek, ee, es, ea, eb⟩) A5 c5), .string (x.told ⟨ek, ee, es, ea, eb⟩), .bool (x.isNext ⟨ek, ee, es, ea, eb⟩)] ∧ Low v G (x.taken ⟨ek, ee, es, ea, eb⟩) A5 c5), own 8 (fun y v => ∃ A5 c5, y = .agg (ends (x.taken ⟨ek, ee, es, ea, eb⟩) A5 c5) ∧ Low v G (x.taken ⟨ek, ee, es, ea, eb⟩) A5 c5), only 9 (.string (x.told ⟨ek, ee, es, ea, eb⟩)), only 10 (.bool (x.isNext ⟨ek, ee, es, ea, eb⟩)), own 11 (fun y v => ∃ g, y = .pointer (some ⟨g, 0, none⟩) ∧ w6.heap.size ≤ g ∧ v.heap[g]? = some (.cells zero11 38 (0, 0))), (fun us v => ∃ A5 c5 g, us 8 = .agg (ends (x.taken ⟨ek, ee, es, ea, eb⟩) A5 c5) ∧ us 11 = .pointer (some ⟨g, 0, none⟩) ∧ v.heap[g]? = some (.cells (ends (x.taken ⟨ek, ee, es, ea, eb⟩) A5 c5) 38 (0, 0)) ∧ Low v G (x.taken ⟨ek, ee, es, ea, eb⟩) A5 c5), only 13 _, only 14 _] (fun v => Below w6.heap.size w6 v) [[], [], [], [1, 2], [3], [4], [0, 5], [6], [7], [7], [7], [], [8, 11], [9], [10]] [[], [], [], [], [], [], [], [6], [], [], [], [], [8, 11], [], []] [[], [], [], [], [], [], [], [], [], [], [], [], [], [], []] [[11], [11], [11], [11], [11], [11], [11], [11], [7, 11], [7, 8, 11, 12], [7, 8, 11, 12], [6, 7, 8], [7], [7, 12], [7, 12]] [6, 7, 8, 11, 12] [0, 0, 0, 6, 14, 30, 63, 127, 255, 255, 255, 0, 2559, 7167, 16383] _ (fun us => ?hfr) (by kernel_rfl) (by kernel_rfl) (by kernel_rfl) ⟨only_still _, only_still _, only_still _, only_still _, only_still _, only_still _, trivial, trivial, trivial, only_still _, only_still _, trivial, trivial, only_still _, only_still _, trivial⟩ (below_drewN (Below.refl w6.heap.size w6) 1) (by simp) (trivial) ?hst ?hla
                case hfr => (simp only [List.cons_append, List.nil_append, putAll, Act.put, List.setIfInBounds_toArray, List.set_cons_zero, List.set_cons_succ, Nat.reduceAdd]; rfl)
                case hst =>
                  refine ⟨?_, ?_, ?_, ?_, ?_, ?_, ?_, ?_, ?_, ?_, ?_, ?_, ?_, ?_, ?_, trivial⟩
                  · intro us v hR hn ho K hK
                    clear ho
                    obtain ⟨z0, z1, z2, z3, z4, z5, z6, z7, z8, z9, z10⟩ := eleven ((hR.block b hbl).trans HD6.out.v); have c4 := (hR.cell (p := ⟨g, o + k * 9 + 4, none⟩) hgl6).trans HAT6.out.c4; have c5 := (hR.cell (p := ⟨g, o + k * 9 + 5, none⟩) hgl6).trans HAT6.out.c5; have c6 := (hR.cell (p := ⟨g, o + k * 9 + 6, none⟩) hgl6).trans HAT6.out.c6; have c7 := (hR.cell (p := ⟨g, o + k * 9 + 7, none⟩) hgl6).trans HAT6.out.c7; have c8 := (hR.cell (p := ⟨g, o + k * 9 + 8, none⟩) hgl6).trans HAT6.out.c8
                    rw [if_pos (by rfl)]
                    go_simp
                    refine hK _ _ _ (by simp only [Act.put, List.setIfInBounds_toArray, List.set_cons_zero, List.set_cons_succ, Nat.reduceAdd] <;> rfl) ?_ hR ⟨fun h => h, trivial⟩
                    refine only_mk (v := v) ?_
                    with_reducible rfl
                  · intro us v hR hn ho K hK
                    clear ho
                    obtain ⟨z0, z1, z2, z3, z4, z5, z6, z7, z8, z9, z10⟩ := eleven ((hR.block b hbl).trans HD6.out.v); have c4 := (hR.cell (p := ⟨g, o + k * 9 + 4, none⟩) hgl6).trans HAT6.out.c4; have c5 := (hR.cell (p := ⟨g, o + k * 9 + 5, none⟩) hgl6).trans HAT6.out.c5; have c6 := (hR.cell (p := ⟨g, o + k * 9 + 6, none⟩) hgl6).trans HAT6.out.c6; have c7 := (hR.cell (p := ⟨g, o + k * 9 + 7, none⟩) hgl6).trans HAT6.out.c7; have c8 := (hR.cell (p := ⟨g, o + k * 9 + 8, none⟩) hgl6).trans HAT6.out.c8
                    rw [if_pos (by rfl)]
                    go_simp
                    refine hK _ _ _ (by simp only [Act.put, List.setIfInBounds_toArray, List.set_cons_zero, List.set_cons_succ, Nat.reduceAdd] <;> rfl) ?_ hR ⟨fun h => h, trivial⟩
                    refine only_mk (v := v) ?_
                    with_reducible rfl
                  · intro us v hR hn ho K hK
                    clear ho
                    obtain ⟨z0, z1, z2, z3, z4, z5, z6, z7, z8, z9, z10⟩ := eleven ((hR.block b hbl).trans HD6.out.v); have c4 := (hR.cell (p := ⟨g, o + k * 9 + 4, none⟩) hgl6).trans HAT6.out.c4; have c5 := (hR.cell (p := ⟨g, o + k * 9 + 5, none⟩) hgl6).trans HAT6.out.c5; have c6 := (hR.cell (p := ⟨g, o + k * 9 + 6, none⟩) hgl6).trans HAT6.out.c6; have c7 := (hR.cell (p := ⟨g, o + k * 9 + 7, none⟩) hgl6).trans HAT6.out.c7; have c8 := (hR.cell (p := ⟨g, o + k * 9 + 8, none⟩) hgl6).trans HAT6.out.c8
                    rw [if_pos (by rfl)]
                    go_simp
                    refine hK _ _ _ (by simp only [Act.put, List.setIfInBounds_toArray, List.set_cons_zero, List.set_cons_succ, Nat.reduceAdd] <;> rfl) ?_ hR ⟨fun h => h, trivial⟩
                    refine only_mk (v := v) ?_
                    with_reducible rfl
                  · intro us v hR hn ho K hK
                    obtain ⟨n1, n2, -⟩ := hn
                    have n1 : us 1 = _ := n1
                    have n2 : us 2 = _ := n2
                    clear ho
                    obtain ⟨z0, z1, z2, z3, z4, z5, z6, z7, z8, z9, z10⟩ := eleven ((hR.block b hbl).trans HD6.out.v); have c4 := (hR.cell (p := ⟨g, o + k * 9 + 4, none⟩) hgl6).trans HAT6.out.c4; have c5 := (hR.cell (p := ⟨g, o + k * 9 + 5, none⟩) hgl6).trans HAT6.out.c5; have c6 := (hR.cell (p := ⟨g, o + k * 9 + 6, none⟩) hgl6).trans HAT6.out.c6; have c7 := (hR.cell (p := ⟨g, o + k * 9 + 7, none⟩) hgl6).trans HAT6.out.c7; have c8 := (hR.cell (p := ⟨g, o + k * 9 + 8, none⟩) hgl6).trans HAT6.out.c8
                    rw [if_pos (by rfl)]
                    go_simp
                    refine hK _ _ _ (by simp only [Act.put, List.setIfInBounds_toArray, List.set_cons_zero, List.set_cons_succ, Nat.reduceAdd, n1, n2] <;> rfl) ?_ hR ⟨fun h => h, trivial⟩
                    refine only_mk (v := v) ?_
                    with_reducible rfl
                  · intro us v hR hn ho K hK
                    obtain ⟨n3, -⟩ := hn
                    have n3 : us 3 = _ := n3
                    clear ho
                    obtain ⟨z0, z1, z2, z3, z4, z5, z6, z7, z8, z9, z10⟩ := eleven ((hR.block b hbl).trans HD6.out.v); have c4 := (hR.cell (p := ⟨g, o + k * 9 + 4, none⟩) hgl6).trans HAT6.out.c4; have c5 := (hR.cell (p := ⟨g, o + k * 9 + 5, none⟩) hgl6).trans HAT6.out.c5; have c6 := (hR.cell (p := ⟨g, o + k * 9 + 6, none⟩) hgl6).trans HAT6.out.c6; have c7 := (hR.cell (p := ⟨g, o + k * 9 + 7, none⟩) hgl6).trans HAT6.out.c7; have c8 := (hR.cell (p := ⟨g, o + k * 9 + 8, none⟩) hgl6).trans HAT6.out.c8
                    rw [if_pos (by rfl)]
                    go_simp
                    refine hK _ _ _ (by simp only [Act.put, List.setIfInBounds_toArray, List.set_cons_zero, List.set_cons_succ, Nat.reduceAdd, n3] <;> rfl) ?_ hR ⟨fun h => h, trivial⟩
                    refine only_mk (v := v) ?_
                    with_reducible rfl
                  · intro us v hR hn ho K hK
                    obtain ⟨n4, -⟩ := hn
                    have n4 : us 4 = _ := n4
                    clear ho
                    obtain ⟨z0, z1, z2, z3, z4, z5, z6, z7, z8, z9, z10⟩ := eleven ((hR.block b hbl).trans HD6.out.v); have c4 := (hR.cell (p := ⟨g, o + k * 9 + 4, none⟩) hgl6).trans HAT6.out.c4; have c5 := (hR.cell (p := ⟨g, o + k * 9 + 5, none⟩) hgl6).trans HAT6.out.c5; have c6 := (hR.cell (p := ⟨g, o + k * 9 + 6, none⟩) hgl6).trans HAT6.out.c6; have c7 := (hR.cell (p := ⟨g, o + k * 9 + 7, none⟩) hgl6).trans HAT6.out.c7; have c8 := (hR.cell (p := ⟨g, o + k * 9 + 8, none⟩) hgl6).trans HAT6.out.c8
                    rw [if_pos (by rfl)]
                    go_simp
                    refine hK _ _ _ (by simp only [Act.put, List.setIfInBounds_toArray, List.set_cons_zero, List.set_cons_succ, Nat.reduceAdd, n4] <;> rfl) ?_ hR ⟨fun h => h, trivial⟩
                    refine only_mk (v := v) ?_
                    with_reducible rfl
                  · intro us v hR hn ho K hK
                    obtain ⟨n0, n5, -⟩ := hn
                    have n0 : us 0 = _ := n0
                    have n5 : us 5 = _ := n5
                    clear ho
                    obtain ⟨z0, z1, z2, z3, z4, z5, z6, z7, z8, z9, z10⟩ := eleven ((hR.block b hbl).trans HD6.out.v); have c4 := (hR.cell (p := ⟨g, o + k * 9 + 4, none⟩) hgl6).trans HAT6.out.c4; have c5 := (hR.cell (p := ⟨g, o + k * 9 + 5, none⟩) hgl6).trans HAT6.out.c5; have c6 := (hR.cell (p := ⟨g, o + k * 9 + 6, none⟩) hgl6).trans HAT6.out.c6; have c7 := (hR.cell (p := ⟨g, o + k * 9 + 7, none⟩) hgl6).trans HAT6.out.c7; have c8 := (hR.cell (p := ⟨g, o + k * 9 + 8, none⟩) hgl6).trans HAT6.out.c8
                    rw [if_pos (by rfl)]
                    clear z0 z1 z2 z3 z4 z5 z6 z7 z8 z9 z10 c4 c5 c6 c7 c8
                    go_simp
                    refine (ref_take ((HD6.out.low.after hR)) HD.out.e.ok ek ee es ea eb HGA.out.2.2.1).mono ?_
                    rintro e v' ⟨A5, c5, rfl, hl5, hb5⟩
                    dsimp only
                    exact hK _ _ _ (by simp only [Act.put, List.setIfInBounds_toArray, List.set_cons_zero, List.set_cons_succ, Nat.reduceAdd, n0, n5] <;> rfl) ⟨A5, c5, rfl, hl5⟩ (hR.trans (hb5.mono hR.size)) ⟨fun ⟨g, h1, h2, h3⟩ => ⟨g, h1, h2, (hb5.block _ (lt_of_block h3)).trans h3⟩, trivial⟩
                  · intro us v hR hn ho K hK
                    obtain ⟨n6, -⟩ := hn
                    clear ho
                    obtain ⟨z0, z1, z2, z3, z4, z5, z6, z7, z8, z9, z10⟩ := eleven ((hR.block b hbl).trans HD6.out.v); have c4 := (hR.cell (p := ⟨g, o + k * 9 + 4, none⟩) hgl6).trans HAT6.out.c4; have c5 := (hR.cell (p := ⟨g, o + k * 9 + 5, none⟩) hgl6).trans HAT6.out.c5; have c6 := (hR.cell (p := ⟨g, o + k * 9 + 6, none⟩) hgl6).trans HAT6.out.c6; have c7 := (hR.cell (p := ⟨g, o + k * 9 + 7, none⟩) hgl6).trans HAT6.out.c7; have c8 := (hR.cell (p := ⟨g, o + k * 9 + 8, none⟩) hgl6).trans HAT6.out.c8
                    obtain ⟨A5, c5, e6, k6⟩ := n6
                    rw [if_pos (by rfl)]
                    go_simp
                    refine hK _ _ _ (by simp only [Act.put, List.setIfInBounds_toArray, List.set_cons_zero, List.set_cons_succ, Nat.reduceAdd, e6] <;> rfl) ⟨A5, c5, rfl, k6⟩ hR ⟨fun h => h, trivial⟩
                  · intro us v hR hn ho K hK
                    obtain ⟨n7, -⟩ := hn
                    clear ho
                    obtain ⟨z0, z1, z2, z3, z4, z5, z6, z7, z8, z9, z10⟩ := eleven ((hR.block b hbl).trans HD6.out.v); have c4 := (hR.cell (p := ⟨g, o + k * 9 + 4, none⟩) hgl6).trans HAT6.out.c4; have c5 := (hR.cell (p := ⟨g, o + k * 9 + 5, none⟩) hgl6).trans HAT6.out.c5; have c6 := (hR.cell (p := ⟨g, o + k * 9 + 6, none⟩) hgl6).trans HAT6.out.c6; have c7 := (hR.cell (p := ⟨g, o + k * 9 + 7, none⟩) hgl6).trans HAT6.out.c7; have c8 := (hR.cell (p := ⟨g, o + k * 9 + 8, none⟩) hgl6).trans HAT6.out.c8
                    obtain ⟨A5, c5, e7, k7⟩ := n7
                    rw [if_pos (by rfl)]
                    go_simp
                    refine hK _ _ _ (by simp only [Act.put, List.setIfInBounds_toArray, List.set_cons_zero, List.set_cons_succ, Nat.reduceAdd, e7] <;> rfl) ⟨A5, c5, rfl, k7⟩ hR ⟨fun h => h, fun h => h, trivial⟩
                  · intro us v hR hn ho K hK
                    obtain ⟨n7, -⟩ := hn
                    clear ho
                    obtain ⟨z0, z1, z2, z3, z4, z5, z6, z7, z8, z9, z10⟩ := eleven ((hR.block b hbl).trans HD6.out.v); have c4 := (hR.cell (p := ⟨g, o + k * 9 + 4, none⟩) hgl6).trans HAT6.out.c4; have c5 := (hR.cell (p := ⟨g, o + k * 9 + 5, none⟩) hgl6).trans HAT6.out.c5; have c6 := (hR.cell (p := ⟨g, o + k * 9 + 6, none⟩) hgl6).trans HAT6.out.c6; have c7 := (hR.cell (p := ⟨g, o + k * 9 + 7, none⟩) hgl6).trans HAT6.out.c7; have c8 := (hR.cell (p := ⟨g, o + k * 9 + 8, none⟩) hgl6).trans HAT6.out.c8
                    obtain ⟨A5, c5, e7, k7⟩ := n7
                    rw [if_pos (by rfl)]
                    go_simp
                    refine hK _ _ _ (by simp only [Act.put, List.setIfInBounds_toArray, List.set_cons_zero, List.set_cons_succ, Nat.reduceAdd, e7] <;> rfl) (only_mk (v := v) rfl) hR ⟨fun h => h, fun h => h, fun h => h, fun h => h, trivial⟩
                  · intro us v hR hn ho K hK
                    obtain ⟨n7, -⟩ := hn
                    clear ho
                    obtain ⟨z0, z1, z2, z3, z4, z5, z6, z7, z8, z9, z10⟩ := eleven ((hR.block b hbl).trans HD6.out.v); have c4 := (hR.cell (p := ⟨g, o + k * 9 + 4, none⟩) hgl6).trans HAT6.out.c4; have c5 := (hR.cell (p := ⟨g, o + k * 9 + 5, none⟩) hgl6).trans HAT6.out.c5; have c6 := (hR.cell (p := ⟨g, o + k * 9 + 6, none⟩) hgl6).trans HAT6.out.c6; have c7 := (hR.cell (p := ⟨g, o + k * 9 + 7, none⟩) hgl6).trans HAT6.out.c7; have c8 := (hR.cell (p := ⟨g, o + k * 9 + 8, none⟩) hgl6).trans HAT6.out.c8
                    obtain ⟨A5, c5, e7, k7⟩ := n7
                    rw [if_pos (by rfl)]
                    go_simp
                    refine hK _ _ _ (by simp only [Act.put, List.setIfInBounds_toArray, List.set_cons_zero, List.set_cons_succ, Nat.reduceAdd, e7] <;> rfl) (only_mk (v := v) rfl) hR ⟨fun h => h, fun h => h, fun h => h, fun h => h, trivial⟩
                  · intro us v hR hn ho K hK
                    clear ho
                    obtain ⟨z0, z1, z2, z3, z4, z5, z6, z7, z8, z9, z10⟩ := eleven ((hR.block b hbl).trans HD6.out.v); have c4 := (hR.cell (p := ⟨g, o + k * 9 + 4, none⟩) hgl6).trans HAT6.out.c4; have c5 := (hR.cell (p := ⟨g, o + k * 9 + 5, none⟩) hgl6).trans HAT6.out.c5; have c6 := (hR.cell (p := ⟨g, o + k * 9 + 6, none⟩) hgl6).trans HAT6.out.c6; have c7 := (hR.cell (p := ⟨g, o + k * 9 + 7, none⟩) hgl6).trans HAT6.out.c7; have c8 := (hR.cell (p := ⟨g, o + k * 9 + 8, none⟩) hgl6).trans HAT6.out.c8
                    rw [if_pos (by rfl)]
                    go_simp
                    exact hK _ _ _ (by simp only [Act.put, List.setIfInBounds_toArray, List.set_cons_zero, List.set_cons_succ, Nat.reduceAdd] <;> rfl) ⟨v.heap.size, rfl, hR.size, heap_alloc_new v _⟩ (hR.alloc hR.size _) ⟨fun ⟨A5, c5, h1, h2⟩ => ⟨A5, c5, h1, h2.alloc _⟩, fun ⟨A5, c5, h1, h2⟩ => ⟨A5, c5, h1, h2.alloc _⟩, fun ⟨A5, c5, h1, h2⟩ => ⟨A5, c5, h1, h2.alloc _⟩, trivial⟩
                  · intro us v hR hn ho K hK
                    obtain ⟨n8, n11, -⟩ := hn
                    clear ho
                    obtain ⟨z0, z1, z2, z3, z4, z5, z6, z7, z8, z9, z10⟩ := eleven ((hR.block b hbl).trans HD6.out.v); have c4 := (hR.cell (p := ⟨g, o + k * 9 + 4, none⟩) hgl6).trans HAT6.out.c4; have c5 := (hR.cell (p := ⟨g, o + k * 9 + 5, none⟩) hgl6).trans HAT6.out.c5; have c6 := (hR.cell (p := ⟨g, o + k * 9 + 6, none⟩) hgl6).trans HAT6.out.c6; have c7 := (hR.cell (p := ⟨g, o + k * 9 + 7, none⟩) hgl6).trans HAT6.out.c7; have c8 := (hR.cell (p := ⟨g, o + k * 9 + 8, none⟩) hgl6).trans HAT6.out.c8
                    obtain ⟨A5, c5, e8, k8⟩ := n8
                    obtain ⟨g1, e11, hg1, hg2⟩ := n11
                    rw [if_pos (by rfl)]
                    refine wp_store_all 38 (.tmp 24) (.tmp 86) (by rfl) g1 _ _ _ e11 e8 hg2 rfl (by kernel_rfl) (by simp [ends, Value.oneCell']) ?_
                    intro v' hq hk
                    exact hK undef _ _ (by simp only [Act.put, List.setIfInBounds_toArray, List.set_cons_zero, List.set_cons_succ, Nat.reduceAdd, e8, e11] <;> rfl) ⟨A5, c5, g1, e8, e11, hq, k8.struck hg2 hk⟩ (hR.trans (hk.below hR.size (by simp; exact hg1))) ⟨fun ⟨A5, c5, h1, h2⟩ => ⟨A5, c5, h1, h2.struck hg2 hk⟩, trivial⟩
                  · intro us v hR hn ho K hK
                    obtain ⟨n9, -⟩ := hn
                    have n9 : us 9 = _ := n9
                    clear ho
                    obtain ⟨z0, z1, z2, z3, z4, z5, z6, z7, z8, z9, z10⟩ := eleven ((hR.block b hbl).trans HD6.out.v); have c4 := (hR.cell (p := ⟨g, o + k * 9 + 4, none⟩) hgl6).trans HAT6.out.c4; have c5 := (hR.cell (p := ⟨g, o + k * 9 + 5, none⟩) hgl6).trans HAT6.out.c5; have c6 := (hR.cell (p := ⟨g, o + k * 9 + 6, none⟩) hgl6).trans HAT6.out.c6; have c7 := (hR.cell (p := ⟨g, o + k * 9 + 7, none⟩) hgl6).trans HAT6.out.c7; have c8 := (hR.cell (p := ⟨g, o + k * 9 + 8, none⟩) hgl6).trans HAT6.out.c8
                    rw [if_pos (by rfl)]
                    go_simp
                    refine hK _ _ _ (by simp only [Act.put, List.setIfInBounds_toArray, List.set_cons_zero, List.set_cons_succ, Nat.reduceAdd, n9] <;> rfl) ?_ hR ⟨fun h => h, fun h => h, trivial⟩
                    refine only_mk (v := v) ?_
                    with_reducible rfl
                  · intro us v hR hn ho K hK
                    obtain ⟨n10, -⟩ := hn
                    have n10 : us 10 = _ := n10
                    clear ho
                    obtain ⟨z0, z1, z2, z3, z4, z5, z6, z7, z8, z9, z10⟩ := eleven ((hR.block b hbl).trans HD6.out.v); have c4 := (hR.cell (p := ⟨g, o + k * 9 + 4, none⟩) hgl6).trans HAT6.out.c4; have c5 := (hR.cell (p := ⟨g, o + k * 9 + 5, none⟩) hgl6).trans HAT6.out.c5; have c6 := (hR.cell (p := ⟨g, o + k * 9 + 6, none⟩) hgl6).trans HAT6.out.c6; have c7 := (hR.cell (p := ⟨g, o + k * 9 + 7, none⟩) hgl6).trans HAT6.out.c7; have c8 := (hR.cell (p := ⟨g, o + k * 9 + 8, none⟩) hgl6).trans HAT6.out.c8
                    rw [if_pos (by rfl)]
                    go_simp
                    refine hK _ _ _ (by simp only [Act.put, List.setIfInBounds_toArray, List.set_cons_zero, List.set_cons_succ, Nat.reduceAdd, n10] <;> rfl) ?_ hR ⟨fun h => h, fun h => h, trivial⟩
                    refine only_mk (v := v) ?_
                    with_reducible rfl
                case hla =>
                  intro us v hR hl
                  obtain ⟨n0, n1, n2, n3, n4, n5, n7, n9, n10, n12, n13, n14, -⟩ := need_last hl [0, 1, 2, 3, 4, 5, 7, 9, 10, 12, 13, 14] (by kernel_rfl)
                  have n0 : us 0 = _ := n0
                  have n1 : us 1 = _ := n1
                  have n2 : us 2 = _ := n2
                  have n3 : us 3 = _ := n3
                  have n4 : us 4 = _ := n4
                  have n5 : us 5 = _ := n5
                  have n9 : us 9 = _ := n9
                  have n10 : us 10 = _ := n10
                  have n13 : us 13 = _ := n13
                  have n14 : us 14 = _ := n14
                  obtain ⟨z0, z1, z2, z3, z4, z5, z6, z7, z8, z9, z10⟩ := eleven ((hR.block b hbl).trans HD6.out.v); have c4 := (hR.cell (p := ⟨g, o + k * 9 + 4, none⟩) hgl6).trans HAT6.out.c4; have c5 := (hR.cell (p := ⟨g, o + k * 9 + 5, none⟩) hgl6).trans HAT6.out.c5; have c6 := (hR.cell (p := ⟨g, o + k * 9 + 6, none⟩) hgl6).trans HAT6.out.c6; have c7 := (hR.cell (p := ⟨g, o + k * 9 + 7, none⟩) hgl6).trans HAT6.out.c7; have c8 := (hR.cell (p := ⟨g, o + k * 9 + 8, none⟩) hgl6).trans HAT6.out.c8
                  simp only [n0, n1, n2, n3, n4, n5, n9, n10, n13, n14]
                  clear hl n0 n1 n2 n3 n4 n5 n9 n10 n13 n14
                  obtain ⟨A5, c5, g1, e8, e11, hq1, hl1⟩ := n12
                  simp only [e8, e11]
                  have q := eleven_set ((hR.block b hbl).trans HD6.out.v) (.int .i64 (x.taken ⟨ek, ee, es, ea, eb⟩).epoch) (.int .i64 ((x.taken ⟨ek, ee, es, ea, eb⟩).window : Int)) (.int .i64 ((x.taken ⟨ek, ee, es, ea, eb⟩).queue : Int)) (.int .i64 ((x.taken ⟨ek, ee, es, ea, eb⟩).wait : Int)) (.slice A5 (x.taken ⟨ek, ee, es, ea, eb⟩).bodies.length c5) (.int .u64 (x.taken ⟨ek, ee, es, ea, eb⟩).first) (.int .i64 ((x.taken ⟨ek, ee, es, ea, eb⟩).out : Int)) (.int .i64 ((x.taken ⟨ek, ee, es, ea, eb⟩).ever : Int)) (.int .u64 (x.taken ⟨ek, ee, es, ea, eb⟩).want) (.bool (x.taken ⟨ek, ee, es, ea, eb⟩).owes) (.int .i64 ((x.taken ⟨ek, ee, es, ea, eb⟩).age : Int))
                  obtain ⟨G6, hd7⟩ := HD6.out.put hR hl1 (fun k hk => .inl hk) q.1 q.2
                  have HD7 := Lib.hid hd7
                  have hHQ := eleven hq1
                  have HV := Lib.hid ((hR.block b hbl).trans HD6.out.v)
                  generalize x.told ⟨ek, ee, es, ea, eb⟩ = td at *
                  generalize x.isNext ⟨ek, ee, es, ea, eb⟩ = nx at *
                  obtain ⟨z0, z1, z2, z3, z4, z5, z6, z7, z8, z9, z10⟩ := hHQ
                  obtain ⟨_, _, _, _, _, _, _, _, _, _, _⟩ := eleven HV.out
                  obtain ⟨_, _, _, _, _, _, _, _, _, _, _⟩ := eleven0 HV.out
                  clear q hd7 hl1 hq1 e8 e11
                  go_wp2_with fail
                  go_meet
                  exact DoSt.mk' HD7.out
        case rest =>
          obtain ⟨x3, F3, G3, A3, c3', hd3⟩ := hcut.all
          clear hcut c0 c3 c4 c5 c6 c7 c8
          go_wp2_with fail
          refine (numbers_any hd3.e).mono ?_
          rintro e w6 ⟨rfl, n6, rfl⟩
          have HD3 := Lib.hid (hd3.drewN n6)
          clear hd3
          go_wp2_with fail
          refine' wp_flow [only 0 _, only 1 (.int .i64 (x3.bodies.length : Int)), only 2 _, only 3 _, only 4 _, only 5 (.bool false), only 6 (.bool false), only 7 _, only 8 _, only 9 _, only 10 (.bool false), only 11 (.bool false), only 12 (.bool false), only 13 _, only 14 _, only 15 _, only 16 (.bool false), only 17 (.bool false)] (fun v => Doe w p b F3 G3 x3 x3 A3 c3' v) [[], [0], [], [2], [3], [1, 4], [5], [6], [6], [6, 8], [6, 7, 9], [6, 10], [11], [12], [12], [12, 14], [12, 13, 15], [12, 16]] [[], [], [], [], [], [], [], [], [], [], [], [], [], [], [], [], [], []] [[], [], [], [], [], [], [], [], [], [], [], [], [], [], [], [], [], []] [[], [], [], [], [], [], [], [], [], [], [], [], [], [], [], [], [], []] [] [0, 1, 0, 4, 12, 31, 63, 127, 127, 383, 1023, 2047, 4095, 8191, 8191, 24575, 65535, 131071] _ (fun us => ?hfr) (by kernel_rfl) (by kernel_rfl) (by kernel_rfl) ⟨only_still _, only_still _, only_still _, only_still _, only_still _, only_still _, only_still _, only_still _, only_still _, only_still _, only_still _, only_still _, only_still _, only_still _, only_still _, only_still _, only_still _, only_still _, trivial⟩ (HD3.out.drewN 1) (by simp) (trivial) ?hst ?hla
          case hfr => (simp only [List.cons_append, List.nil_append, putAll, Act.put, List.setIfInBounds_toArray, List.set_cons_zero, List.set_cons_succ, Nat.reduceAdd]; rfl)
          case hst =>
            refine ⟨?_, ?_, ?_, ?_, ?_, ?_, ?_, ?_, ?_, ?_, ?_, ?_, ?_, ?_, ?_, ?_, ?_, ?_, trivial⟩
            · intro us v hR hn ho K hK
              clear ho
              obtain ⟨_, _, _, _, y4, y5, _, _, y8, _, _⟩ := eleven hR.v
              rw [if_pos (by rfl)]
              go_simp
              refine hK _ _ _ (by simp only [Act.put, List.setIfInBounds_toArray, List.set_cons_zero, List.set_cons_succ, Nat.reduceAdd] <;> rfl) ?_ hR trivial
              refine only_mk (v := v) ?_
              with_reducible rfl
            · intro us v hR hn ho K hK
              obtain ⟨n0, -⟩ := hn
              have n0 : us 0 = _ := n0
              clear ho
              obtain ⟨_, _, _, _, y4, y5, _, _, y8, _, _⟩ := eleven hR.v
              rw [if_pos (by rfl)]
              go_simp
              refine (waiting_any hR.e).mono ?_
              rintro e v' ⟨rfl, rfl⟩
              dsimp only
              exact hK _ _ _ (by simp only [Act.put, List.setIfInBounds_toArray, List.set_cons_zero, List.set_cons_succ, Nat.reduceAdd, n0] <;> rfl) rfl hR trivial
            · intro us v hR hn ho K hK
              clear ho
              obtain ⟨_, _, _, _, y4, y5, _, _, y8, _, _⟩ := eleven hR.v
              rw [if_pos (by rfl)]
              go_simp
              refine hK _ _ _ (by simp only [Act.put, List.setIfInBounds_toArray, List.set_cons_zero, List.set_cons_succ, Nat.reduceAdd] <;> rfl) ?_ hR trivial
              refine only_mk (v := v) ?_
              with_reducible rfl
            · intro us v hR hn ho K hK
              obtain ⟨n2, -⟩ := hn
              have n2 : us 2 = _ := n2
              clear ho
              obtain ⟨_, _, _, _, y4, y5, _, _, y8, _, _⟩ := eleven hR.v
              rw [if_pos (by rfl)]
              go_simp
              refine hK _ _ _ (by simp only [Act.put, List.setIfInBounds_toArray, List.set_cons_zero, List.set_cons_succ, Nat.reduceAdd, n2] <;> rfl) ?_ hR trivial
              refine only_mk (v := v) ?_
              with_reducible rfl
            · intro us v hR hn ho K hK
              obtain ⟨n3, -⟩ := hn
              have n3 : us 3 = _ := n3
              clear ho
              obtain ⟨_, _, _, _, y4, y5, _, _, y8, _, _⟩ := eleven hR.v
              rw [if_pos (by rfl)]
              go_simp
              refine hK _ _ _ (by simp only [Act.put, List.setIfInBounds_toArray, List.set_cons_zero, List.set_cons_succ, Nat.reduceAdd, n3] <;> rfl) ?_ hR trivial
              refine only_mk (v := v) ?_
              with_reducible rfl
            · intro us v hR hn ho K hK
              obtain ⟨n1, n4, -⟩ := hn
              have n1 : us 1 = _ := n1
              have n4 : us 4 = _ := n4
              clear ho
              obtain ⟨_, _, _, _, y4, y5, _, _, y8, _, _⟩ := eleven hR.v
              rw [if_pos (by rfl)]
              go_simp
              refine hK _ _ _ (by simp only [Act.put, List.setIfInBounds_toArray, List.set_cons_zero, List.set_cons_succ, Nat.reduceAdd, n1, n4] <;> rfl) ?_ hR trivial
              refine only_mk (v := v) ?_
              with_reducible rfl
            · intro us v hR hn ho K hK
              obtain ⟨n5, -⟩ := hn
              have n5 : us 5 = _ := n5
              clear ho
              obtain ⟨_, _, _, _, y4, y5, _, _, y8, _, _⟩ := eleven hR.v
              rw [if_pos (by rfl)]
              go_simp
              refine hK _ _ _ (by simp only [Act.put, List.setIfInBounds_toArray, List.set_cons_zero, List.set_cons_succ, Nat.reduceAdd, n5] <;> rfl) ?_ hR trivial
              refine only_mk (v := v) ?_
              with_reducible rfl
            · intro us v hR hn ho K hK
              obtain ⟨n6, -⟩ := hn
              have n6 : us 6 = _ := n6
              clear ho
              obtain ⟨_, _, _, _, y4, y5, _, _, y8, _, _⟩ := eleven hR.v
              rw [if_pos (by simp [Region.wanted, yielded, n6])]
              go_simp
              refine hK _ _ _ (by simp only [Act.put, List.setIfInBounds_toArray, List.set_cons_zero, List.set_cons_succ, Nat.reduceAdd, n6] <;> rfl) ?_ hR trivial
              refine only_mk (v := v) ?_
              with_reducible rfl
            · intro us v hR hn ho K hK
              obtain ⟨n6, -⟩ := hn
              have n6 : us 6 = _ := n6
              clear ho
              obtain ⟨_, _, _, _, y4, y5, _, _, y8, _, _⟩ := eleven hR.v
              rw [if_pos (by simp [Region.wanted, yielded, n6])]
              go_simp
              refine hK _ _ _ (by simp only [Act.put, List.setIfInBounds_toArray, List.set_cons_zero, List.set_cons_succ, Nat.reduceAdd, n6] <;> rfl) ?_ hR trivial
              refine only_mk (v := v) ?_
              with_reducible rfl
            · intro us v hR hn ho K hK
              obtain ⟨n6, n8, -⟩ := hn
              have n6 : us 6 = _ := n6
              have n8 : us 8 = _ := n8
              clear ho
              obtain ⟨_, _, _, _, y4, y5, _, _, y8, _, _⟩ := eleven hR.v
              rw [if_pos (by simp [Region.wanted, yielded, n6, n8])]
              go_simp
              refine hK _ _ _ (by simp only [Act.put, List.setIfInBounds_toArray, List.set_cons_zero, List.set_cons_succ, Nat.reduceAdd, n6, n8] <;> rfl) ?_ hR trivial
              refine only_mk (v := v) ?_
              with_reducible rfl
            · intro us v hR hn ho K hK
              obtain ⟨n6, n7, n9, -⟩ := hn
              have n6 : us 6 = _ := n6
              have n7 : us 7 = _ := n7
              have n9 : us 9 = _ := n9
              clear ho
              obtain ⟨_, _, _, _, y4, y5, _, _, y8, _, _⟩ := eleven hR.v
              rw [if_pos (by simp [Region.wanted, yielded, n6, n7, n9])]
              go_simp
              refine hK _ _ _ (by simp only [Act.put, List.setIfInBounds_toArray, List.set_cons_zero, List.set_cons_succ, Nat.reduceAdd, n6, n7, n9] <;> rfl) ?_ hR trivial
              refine only_mk (v := v) ?_
              with_reducible rfl
            · intro us v hR hn ho K hK
              obtain ⟨n6, n10, -⟩ := hn
              have n6 : us 6 = _ := n6
              have n10 : us 10 = _ := n10
              clear ho
              obtain ⟨_, _, _, _, y4, y5, _, _, y8, _, _⟩ := eleven hR.v
              rw [if_pos (by rfl)]
              go_simp
              refine hK _ _ _ (by simp only [Act.put, List.setIfInBounds_toArray, List.set_cons_zero, List.set_cons_succ, Nat.reduceAdd, n6, n10] <;> rfl) ?_ hR trivial
              refine only_mk (v := v) ?_
              with_reducible rfl
            · intro us v hR hn ho K hK
              obtain ⟨n11, -⟩ := hn
              have n11 : us 11 = _ := n11
              clear ho
              obtain ⟨_, _, _, _, y4, y5, _, _, y8, _, _⟩ := eleven hR.v
              rw [if_pos (by rfl)]
              go_simp
              refine hK _ _ _ (by simp only [Act.put, List.setIfInBounds_toArray, List.set_cons_zero, List.set_cons_succ, Nat.reduceAdd, n11] <;> rfl) ?_ hR trivial
              refine only_mk (v := v) ?_
              with_reducible rfl
            · intro us v hR hn ho K hK
              obtain ⟨n12, -⟩ := hn
              have n12 : us 12 = _ := n12
              clear ho
              obtain ⟨_, _, _, _, y4, y5, _, _, y8, _, _⟩ := eleven hR.v
              rw [if_pos (by simp [Region.wanted, yielded, n12])]
              go_simp
              refine hK _ _ _ (by simp only [Act.put, List.setIfInBounds_toArray, List.set_cons_zero, List.set_cons_succ, Nat.reduceAdd, n12] <;> rfl) ?_ hR trivial
              refine only_mk (v := v) ?_
              with_reducible rfl
            · intro us v hR hn ho K hK
              obtain ⟨n12, -⟩ := hn
              have n12 : us 12 = _ := n12
              clear ho
              obtain ⟨_, _, _, _, y4, y5, _, _, y8, _, _⟩ := eleven hR.v
              rw [if_pos (by simp [Region.wanted, yielded, n12])]
              go_simp
              refine hK _ _ _ (by simp only [Act.put, List.setIfInBounds_toArray, List.set_cons_zero, List.set_cons_succ, Nat.reduceAdd, n12] <;> rfl) ?_ hR trivial
              refine only_mk (v := v) ?_
              with_reducible rfl
            · intro us v hR hn ho K hK
              obtain ⟨n12, n14, -⟩ := hn
              have n12 : us 12 = _ := n12
              have n14 : us 14 = _ := n14
              clear ho
              obtain ⟨_, _, _, _, y4, y5, _, _, y8, _, _⟩ := eleven hR.v
              rw [if_pos (by simp [Region.wanted, yielded, n12, n14])]
              go_simp
              refine hK _ _ _ (by simp only [Act.put, List.setIfInBounds_toArray, List.set_cons_zero, List.set_cons_succ, Nat.reduceAdd, n12, n14] <;> rfl) ?_ hR trivial
              refine only_mk (v := v) ?_
              with_reducible rfl
            · intro us v hR hn ho K hK
              obtain ⟨n12, n13, n15, -⟩ := hn
              have n12 : us 12 = _ := n12
              have n13 : us 13 = _ := n13
              have n15 : us 15 = _ := n15
              clear ho
              obtain ⟨_, _, _, _, y4, y5, _, _, y8, _, _⟩ := eleven hR.v
              rw [if_pos (by simp [Region.wanted, yielded, n12, n13, n15])]
              go_simp
              refine hK _ _ _ (by simp only [Act.put, List.setIfInBounds_toArray, List.set_cons_zero, List.set_cons_succ, Nat.reduceAdd, n12, n13, n15] <;> rfl) ?_ hR trivial
              refine only_mk (v := v) ?_
              with_reducible rfl
            · intro us v hR hn ho K hK
              obtain ⟨n12, n16, -⟩ := hn
              have n12 : us 12 = _ := n12
              have n16 : us 16 = _ := n16
              clear ho
              obtain ⟨_, _, _, _, y4, y5, _, _, y8, _, _⟩ := eleven hR.v
              rw [if_pos (by rfl)]
              go_simp
              refine hK _ _ _ (by simp only [Act.put, List.setIfInBounds_toArray, List.set_cons_zero, List.set_cons_succ, Nat.reduceAdd, n12, n16] <;> rfl) ?_ hR trivial
              refine only_mk (v := v) ?_
              with_reducible rfl
          case hla =>
            intro us v hR hl
            obtain ⟨n0, n1, n2, n3, n4, n5, n6, n7, n8, n9, n10, n11, n12, n13, n14, n15, n16, n17, -⟩ := need_last hl [0, 1, 2, 3, 4, 5, 6, 7, 8, 9, 10, 11, 12, 13, 14, 15, 16, 17] (by kernel_rfl)
            have n0 : us 0 = _ := n0
            have n1 : us 1 = _ := n1
            have n2 : us 2 = _ := n2
            have n3 : us 3 = _ := n3
            have n4 : us 4 = _ := n4
            have n5 : us 5 = _ := n5
            have n6 : us 6 = _ := n6
            have n7 : us 7 = _ := n7
            have n8 : us 8 = _ := n8
            have n9 : us 9 = _ := n9
            have n10 : us 10 = _ := n10
            have n11 : us 11 = _ := n11
            have n12 : us 12 = _ := n12
            have n13 : us 13 = _ := n13
            have n14 : us 14 = _ := n14
            have n15 : us 15 = _ := n15
            have n16 : us 16 = _ := n16
            have n17 : us 17 = _ := n17
            obtain ⟨_, _, _, _, y4, y5, _, _, y8, _, _⟩ := eleven hR.v
            simp only [n0, n1, n2, n3, n4, n5, n6, n7, n8, n9, n10, n11, n12, n13, n14, n15, n16, n17]
            clear hl n0 n1 n2 n3 n4 n5 n6 n7 n8 n9 n10 n11 n12 n13 n14 n15 n16 n17
            have HRR := Lib.hid (DoSt.mk' hR)
            clear hR
            go_wp2_with fail
            go_roundw
            case rel => exact ⟨k + 1, hlt, by go_num, HRR.out⟩
            case measure => simp [intOf]; omega
      · obtain rfl : k = l.length := by omega
        go_wp2_with fail
        go_ret
        exact ⟨rfl, hb⟩
end Go.Proofs.Ytblaanohidldpaa.Link
