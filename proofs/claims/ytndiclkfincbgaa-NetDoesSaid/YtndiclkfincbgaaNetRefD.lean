/- Layer 8, the reference: a net as a value: Deliver. Conditions: the value's rows lie (RefNet). -/
import Derived.Test.YtndiclkfincbgaaNetRefS
namespace Go.Proofs.Ytndiclkfincbgaa.Net
set_option linter.unusedSimpArgs false
set_option linter.unusedVariables false
open Go.RowKit
/-- a row of texts from a place on: how it is taken, and what may be read of it -/
theorem slice_tail (g o n c j : Nat) (h : j + 1 ≤ n) (hn : n ≤ 1000) : ∃ A2 : Addr, (∀ wx, (Instr.slice 41 (.slice (some ⟨g, o, none⟩) n c) (some (.int .i64 ((j : Int) + 1))) none none).run Try.prog wx = .ok (.slice (some A2) (n - (j + 1)) (c - (j + 1))) wx) ∧
    ∀ w F cs, Vec w F 1 (some ⟨g, o, none⟩) n c cs → (∀ u ∈ cs, u.oneCell' = true) → Src Try.prog 1 41 (.slice (some A2) (n - (j + 1)) (c - (j + 1))) (n - (j + 1)) (cs.drop (j + 1)) w := by
  have hs : ∀ wx, (sizeOf (Try.prog.elem 41)).run Try.prog wx = .ok 1 wx := fun _ => by kernel_rfl
  have ht : ((j : Int) + 1).toNat = j + 1 := by omega
  have hrun : ∀ wx, (Instr.slice 41 (.slice (some ⟨g, o, none⟩) n c) (some (.int .i64 ((j : Int) + 1))) none none).run Try.prog wx = .ok (sliced (some ⟨g, o, none⟩) (j + 1) n c 1) wx := fun wx => by
    rw [run_slice_l (h0 := by omega) (h1 := by omega) (ht := by kernel_rfl), hs, ht]; rfl
  by_cases hc : c = j + 1
  · subst hc
    refine ⟨⟨g, o, none⟩, fun wx => by rw [hrun]; simp [sliced], fun w F cs hv h1 => ?_⟩
    have hle := hv.le
    have hd := hv.emptied (j + 1) (by omega) rfl
    rw [Nat.mul_one] at hd
    exact hd.src Try.underlying41 fun u hu => h1 u (List.mem_of_mem_drop hu)
  · refine ⟨⟨g, o + (j + 1), none⟩, fun wx => by rw [hrun]; simp [sliced, hc, Addr.add_mid], fun w F cs hv h1 => ?_⟩
    have hle := hv.le
    have hd := hv.dropped (j + 1) h (by omega) g o rfl
    rw [Nat.mul_one] at hd
    exact hd.src Try.underlying41 fun u hu => h1 u (List.mem_of_mem_drop hu)
theorem vec_take_src {w : World} {F : List Nat} {g o n c j : Nat} {cs : List Value} (h : Vec w F 1 (some ⟨g, o, none⟩) n c cs) (hj : j ≤ n) (h1 : ∀ u ∈ cs, u.oneCell' = true) : Src Try.prog 1 41 (.slice (some ⟨g, o, none⟩) j c) j (cs.take j) w := by
  have hl := h.len
  refine Src.ofSlice w Try.underlying41 _ j c (cs.take j) (by rw [List.length_take]; omega) (fun i u hi => ?_) fun u hu => h1 u (List.mem_of_mem_take hu)
  rw [List.getElem?_take] at hi
  split at hi
  · exact h.cells _ rfl i u hi
  · cases hi
def DelSaid (w : World) (G : List Nat) (s' : NS) (n : Nat) (t : ByteArray) (ok : Bool) (e : Ending) (w' : World) : Prop :=
  ∃ v' W' c' ws' G', e = .returned (.tuple #[v', .string t, .bool ok]) ∧ RefNet w' G' v' s' W' c' ws' ∧ ws'.length ≤ n + 1 ∧ (∀ k, k ∈ G' → k ∈ G ∨ w.heap.size ≤ k) ∧ Below w.heap.size w w'
section
variable {w w' : World} {G : List Nat} {v : Value} {s : NS} {W : Option Addr} {c : Nat} {ws : List Way}
set_option maxRecDepth 100000 in
set_option maxHeartbeats 8000000 in
theorem ref_deliver (h : RefNet w G v s W c ws) (a b k : Int) (hl : ws.length ≤ 900) :
    Calls Try.prog 15 #[v, .int .i64 a, .int .i64 b, .int .i64 k] w (DelSaid w G (s.deliver a b k) ws.length (s.look a b k) (s.isAt a b k)) := by
  obtain ⟨i0, hi0, hz0, hz1, hz2⟩ := info_parts str_info
  have hv := h.v
  subst hv
  have hbx := boxes w (.int .i64 (s.n : Int)) (.int .i64 (s.m : Int)) (.slice W ws.length c)
  obtain ⟨w2, hw2⟩ : ∃ w2, (w.alloc (.cells #[.int .i64 (s.n : Int), .int .i64 (s.m : Int), .slice W ws.length c] 29)).alloc (.cells #[.int .i64 0, .int .i64 0, .slice none 0 0] 29) = w2 := ⟨_, rfl⟩
  rw [hw2] at hbx
  have hcap := h.ok.room a b
  have hm := h.ok.m1000
  have HBX := Lib.hid hbx
  have H0 := Lib.hid h
  have H := Lib.hid (h.after hbx.below)
  have HW2 := Lib.hid hw2
  have HD1 := Lib.hid (show s.isAt a b k = false → s.deliver a b k = s ∧ s.look a b k = ⟨#[]⟩ from fun e => by unfold NS.deliver NS.look; rw [e]; exact ⟨rfl, rfl⟩)
  have HD2 := Lib.hid (show s.isAt a b k = true → s.deliver a b k = s.set a b ((s.f a b).eraseIdx k.toNat) ∧ (s.set a b ((s.f a b).eraseIdx k.toNat)).Ok ∧ 0 ≤ k ∧ k < ((s.f a b).length : Int) from fun e => by
    have h1 := h.ok.deliver a b k
    unfold NS.deliver at h1 ⊢
    rw [e, if_pos rfl] at h1
    rw [e, if_pos rfl]
    simp only [NS.isAt, decide_eq_true_eq] at e
    exact ⟨rfl, h1, e⟩)
  clear h hbx hw2
  go_enter Try.func15, Try.ntmps15
  go_wp2_with fail
  rw [HW2.out]
  obtain ⟨b0, b1, b2, _, _, _⟩ := three HBX.out.box
  go_wp2_with fail
  refine (ref_look H.out a b k (by omega)).mono ?_
  rintro e w3 ⟨rfl, hb3⟩
  have HB3 := Lib.hid hb3
  have H3 := Lib.hid (H.out.after hb3)
  have hbox3 := (hb3.block _ (lt_of_block HBX.out.box)).trans HBX.out.box
  have hres3 := (hb3.block _ (lt_of_block HBX.out.res)).trans HBX.out.res
  have HRES3 := Lib.hid hres3
  have HBOX3 := Lib.hid hbox3
  clear b0 b1 b2 hb3
  obtain ⟨b0, b1, b2, _, _, _⟩ := three hbox3
  obtain ⟨_, _, _, g0, g1, g2⟩ := three hres3
  have hbw : Below w.heap.size w w3 := HBX.out.below.trans (HB3.out.mono (by have := HBX.out.sz; omega))
  have HBW := Lib.hid hbw
  have hsz3 : w.heap.size + 2 ≤ w3.heap.size := by have := HB3.out.size; have := HBX.out.sz; omega
  clear hbox3 hres3 hbw
  cases hk : s.isAt a b k
  · have HK := Lib.hid (HD1.out hk)
    have HKK := Lib.hid hk
    clear hk
    go_wp2_with fail
    have q := three_set HRES3.out (.int .i64 (s.n : Int)) (.int .i64 (s.m : Int)) (.slice W ws.length c)
    refine ret_row3 Try.results15 (w.heap.size + 1) _ _ _ _ _ rfl q.1 rfl rfl Try.underlying29 rfl (by kernel_rfl) rfl ?_
    have hfin : ∀ wf, Kept [w.heap.size + 1] w3 wf → DelSaid w G (s.deliver a b k) ws.length (s.look a b k) (s.isAt a b k) (.returned (.tuple #[.agg #[.int .i64 (s.n : Int), .int .i64 (s.m : Int), .slice W ws.length c], .string ⟨#[]⟩, .bool false])) wf := by
      intro wf hkf
      rw [HK.out.1, HK.out.2, HKK.out]
      exact ⟨_, W, c, ws, G, rfl, H3.out.kept hkf (fun k hk2 => by have := H0.out.lt k hk2; simp; omega), by omega, fun k hk => .inl hk, HBW.out.trans (hkf.below HBW.out.size (by simp))⟩
    exact hfin _ q.2
  · obtain ⟨hd1, hd2, hk0, hk1⟩ := HD2.out hk
    obtain ⟨j, rfl⟩ := Int.eq_ofNat_of_zero_le hk0
    rw [Int.toNat_natCast] at hd1 hd2
    have HE := Lib.hid hd1
    have HOK := Lib.hid hd2
    have HKK := Lib.hid hk
    clear hk hd1 hd2
    go_wp2_with fail
    refine (ref_row H3.out a b (by omega)).mono ?_
    rintro e w4 ⟨A4, c4, K, rfl, hv4, hK4, hb4⟩
    have HV4 := Lib.hid (hv4.after hb4)
    have HK4 := Lib.hid hK4
    have H4 := Lib.hid (H3.out.after hb4)
    have hbox4 := (hb4.block _ (lt_of_block HBOX3.out)).trans HBOX3.out
    have hres4 := (hb4.block _ (lt_of_block HRES3.out)).trans HRES3.out
    have HRES := Lib.hid hres4
    have HBOX := Lib.hid hbox4
    have hbw : Below w.heap.size w w4 := HBW.out.trans (hb4.mono HBW.out.size)
    have hsz4 : w.heap.size + 2 ≤ w4.heap.size := Nat.le_trans hsz3 hb4.size
    have HBW := Lib.hid hbw
    clear b0 b1 b2 g0 g1 g2 hbw hv4 hK4 hb4 hres4
    obtain ⟨b0, b1, b2, _, _, _⟩ := three hbox4
    clear hbox4
    obtain ⟨t, ht⟩ : ∃ t, s.look a b (j : Int) = t := ⟨_, rfl⟩
    rw [ht]
    have HT := Lib.hid ht
    clear ht
    generalize hxs : s.f a b = xs at *
    have HXS := Lib.hid hxs
    clear hxs
    have hjx : j < xs.length := by omega
    obtain ⟨g, o, rfl, _, _, _⟩ := HV4.out.at (j := j) (u := .string xs[j]) (by rw [List.getElem?_map, List.getElem?_eq_getElem hjx]; rfl)
    obtain ⟨A2, hsl, hsrc⟩ := slice_tail g o xs.length c4 j hjx (by omega)
    have HSRC := Lib.hid hsrc
    have hjc : (j : Int) ≤ (c4 : Int) := by have := HV4.out.le; omega
    have hw1 : IntKind.i64.wrap ((j : Int) + 1) = (j : Int) + 1 := IntWalk.i64_in _ (by omega)
    have i0' : (0 : Int) ≤ (j : Int) := by omega
    obtain ⟨ys, hys⟩ : ∃ ys, xs.eraseIdx j = ys := ⟨_, rfl⟩
    rw [hys] at HE HOK
    have hmap : (xs.map Value.string).take j ++ (xs.map Value.string).drop (j + 1) = ys.map .string := by rw [← hys, List.eraseIdx_eq_take_drop_succ, List.map_append, List.map_take, List.map_drop]
    have HMAP := Lib.hid hmap
    have HYL := Lib.hid (show j + (xs.length - (j + 1)) = ys.length from by rw [← hys, List.length_eraseIdx_of_lt hjx]; omega)
    have HONE := Lib.hid (show ∀ u ∈ xs.map Value.string, u.oneCell' = true from by simp [Value.oneCell'])
    have hx1000 : xs.length ≤ 1000 := by omega
    have HSL := Lib.hid hsl
    clear hsrc hys hmap hsl
    go_wp2_with fail
    refine' wp_flow [only 0 (.agg #[.int .i64 (s.n : Int), .int .i64 (s.m : Int), .slice W ws.length c]), only 1 _, only 2 _, own 3 (fun y v => ∃ b, y = .slice (some ⟨b, 0, none⟩) 0 0 ∧ w4.heap.size ≤ b ∧ Vec v [b] 1 (some ⟨b, 0, none⟩) 0 0 []), only 4 _, only 5 _, only 6 (.slice (some ⟨g, o, none⟩) j c4), own 7 (fun y v => ∃ F A5 c5, y = .slice A5 j c5 ∧ Vec v F 1 A5 j c5 ((xs.map .string).take j) ∧ ∀ k, k ∈ F → w4.heap.size ≤ k), only 8 _, only 9 _, only 10 (.int .i64 ((j : Int) + 1)), only 11 (.slice (some A2) (xs.length - (j + 1)) (c4 - (j + 1))), own 12 (fun y v => ∃ F A5 c5, y = .slice A5 ys.length c5 ∧ Vec v F 1 A5 ys.length c5 (ys.map .string) ∧ ∀ k, k ∈ F → w4.heap.size ≤ k), own 13 (fun y v => ∃ W' c' ws' G', RefNet v G' y (s.set a b ys) W' c' ws' ∧ ws'.length ≤ ws.length + 1 ∧ ∀ k, k ∈ G' → k ∈ G ∨ w4.heap.size ≤ k), only 14 _, (fun us v => ∃ W' c' ws' G' x2, RefNet v G' (.agg #[.int .i64 (s.n : Int), .int .i64 (s.m : Int), x2]) (s.set a b ys) W' c' ws' ∧ ws'.length ≤ ws.length + 1 ∧ (∀ k, k ∈ G' → k ∈ G ∨ w4.heap.size ≤ k) ∧ v.heap[w.heap.size + 1]? = some (.cells #[.int .i64 (s.n : Int), .int .i64 (s.m : Int), x2] 29 (0, 0))), only 16 (.string t), only 17 _, (fun _ v => v.heap[w.heap.size + 1]? = some (.cells #[.int .i64 0, .int .i64 0, .slice none 0 0] 29 (0, 0)))] (fun v => Kept [w.heap.size + 1] w4 v) [[], [], [], [], [], [], [4, 5], [3, 6], [], [], [9], [8, 10], [7, 11], [0, 1, 2, 12], [], [13, 18], [14], []] [[], [], [], [], [], [], [], [3], [], [], [], [], [7], [12], [], [13, 18], [], []] [[], [], [], [], [], [], [], [], [], [], [], [], [], [], [], [], [], []] [[3, 7, 12, 18], [3, 7, 12, 18], [3, 7, 12, 18], [18], [3, 18], [3, 18], [3, 18], [18], [3, 7, 18], [3, 7, 18], [3, 7, 18], [3, 7, 18], [18], [18], [3, 7, 12, 13, 15, 18], [], [3, 7, 12, 13, 15, 18], [3, 7, 12, 13, 15, 18]] [3, 7, 12, 13, 15, 18] [0, 0, 0, 0, 0, 0, 48, 120, 0, 0, 512, 1792, 4088, 8191, 0, 16383, 16384, 0] _ (fun us => ?hfr) (by kernel_rfl) (by kernel_rfl) (by kernel_rfl) ⟨only_still _, only_still _, only_still _, trivial, only_still _, only_still _, only_still _, trivial, only_still _, only_still _, only_still _, only_still _, trivial, trivial, only_still _, trivial, only_still _, only_still _, trivial, trivial⟩ ((Kept.refl _ w4).drew) (by simp) (HRES.out) ?hst ?hla
    case hfr => (simp only [List.cons_append, List.nil_append, putAll, Act.put, List.setIfInBounds_toArray, List.set_cons_zero, List.set_cons_succ, Nat.reduceAdd]; rfl)
    case hst =>
      refine ⟨?_, ?_, ?_, ?_, ?_, ?_, ?_, ?_, ?_, ?_, ?_, ?_, ?_, ?_, ?_, ?_, ?_, ?_, trivial⟩
      · intro us v hR hn ho K hK
        clear ho
        obtain ⟨b0, b1, b2, _, _, _⟩ := three ((hR.block w.heap.size (by omega) (by simp)).trans HBOX.out)
        rw [if_pos (by rfl)]
        go_simp
        refine hK _ _ _ (by simp only [Act.put, List.setIfInBounds_toArray, List.set_cons_zero, List.set_cons_succ, Nat.reduceAdd] <;> rfl) ?_ hR ⟨fun h => h, fun h => h, fun h => h, fun h => h, trivial⟩
        refine only_mk (v := v) ?_
        with_reducible rfl
      · intro us v hR hn ho K hK
        clear ho
        obtain ⟨b0, b1, b2, _, _, _⟩ := three ((hR.block w.heap.size (by omega) (by simp)).trans HBOX.out)
        rw [if_pos (by rfl)]
        go_simp
        refine hK _ _ _ (by simp only [Act.put, List.setIfInBounds_toArray, List.set_cons_zero, List.set_cons_succ, Nat.reduceAdd] <;> rfl) ?_ hR ⟨fun h => h, fun h => h, fun h => h, fun h => h, trivial⟩
        refine only_mk (v := v) ?_
        with_reducible rfl
      · intro us v hR hn ho K hK
        clear ho
        obtain ⟨b0, b1, b2, _, _, _⟩ := three ((hR.block w.heap.size (by omega) (by simp)).trans HBOX.out)
        rw [if_pos (by rfl)]
        go_simp
        refine hK _ _ _ (by simp only [Act.put, List.setIfInBounds_toArray, List.set_cons_zero, List.set_cons_succ, Nat.reduceAdd] <;> rfl) ?_ hR ⟨fun h => h, fun h => h, fun h => h, fun h => h, trivial⟩
        refine only_mk (v := v) ?_
        with_reducible rfl
      · intro us v hR hn ho K hK
        clear ho
        obtain ⟨b0, b1, b2, _, _, _⟩ := three ((hR.block w.heap.size (by omega) (by simp)).trans HBOX.out)
        rw [if_pos (by rfl)]
        go_simp
        obtain ⟨b, hb1, hb2, hb3⟩ := empty_cells v 9
        refine hK _ _ _ (by simp only [Act.put, List.setIfInBounds_toArray, List.set_cons_zero, List.set_cons_succ, Nat.reduceAdd] <;> rfl) ⟨b, by rw [hb1]; rfl, by rw [hb1]; exact hR.size, hb2⟩ (hR.alloc _) ⟨fun h => (Below.heap_alloc _ _ _ (lt_of_block h)).trans h, trivial⟩
      · intro us v hR hn ho K hK
        clear ho
        obtain ⟨b0, b1, b2, _, _, _⟩ := three ((hR.block w.heap.size (by omega) (by simp)).trans HBOX.out)
        rw [if_pos (by rfl)]
        go_simp
        refine hK _ _ _ (by simp only [Act.put, List.setIfInBounds_toArray, List.set_cons_zero, List.set_cons_succ, Nat.reduceAdd] <;> rfl) ?_ hR ⟨fun h => h, fun h => h, trivial⟩
        refine only_mk (v := v) ?_
        with_reducible rfl
      · intro us v hR hn ho K hK
        clear ho
        obtain ⟨b0, b1, b2, _, _, _⟩ := three ((hR.block w.heap.size (by omega) (by simp)).trans HBOX.out)
        rw [if_pos (by rfl)]
        go_simp
        refine hK _ _ _ (by simp only [Act.put, List.setIfInBounds_toArray, List.set_cons_zero, List.set_cons_succ, Nat.reduceAdd] <;> rfl) ?_ hR ⟨fun h => h, fun h => h, trivial⟩
        refine only_mk (v := v) ?_
        with_reducible rfl
      · intro us v hR hn ho K hK
        obtain ⟨n4, n5, -⟩ := hn
        have n4 : us 4 = _ := n4
        have n5 : us 5 = _ := n5
        clear ho
        obtain ⟨b0, b1, b2, _, _, _⟩ := three ((hR.block w.heap.size (by omega) (by simp)).trans HBOX.out)
        rw [if_pos (by rfl)]
        go_simp
        refine hK _ _ _ (by simp only [Act.put, List.setIfInBounds_toArray, List.set_cons_zero, List.set_cons_succ, Nat.reduceAdd, n4, n5] <;> rfl) ?_ hR ⟨fun h => h, fun h => h, trivial⟩
        refine only_mk (v := v) ?_
        with_reducible rfl
      · intro us v hR hn ho K hK
        obtain ⟨n3, n6, -⟩ := hn
        have n6 : us 6 = _ := n6
        clear ho
        obtain ⟨b0, b1, b2, _, _, _⟩ := three ((hR.block w.heap.size (by omega) (by simp)).trans HBOX.out)
        obtain ⟨b3, n3, hb3, hvb⟩ := n3
        refine step_append_vec _ (by rfl) (.tmp 32) (.tmp 35) 41 41 (by rfl) 9 i0 _ 1 16 Try.underlying41 hi0 hz0 hz1 hz2 rfl [b3] (some ⟨b3, 0, none⟩) 0 0 [] _ j ((xs.map .string).take j) n3 n6 hvb (vec_take_src (HV4.out.kept hR (fun k hk => by have := H0.out.lt k (HK4.out k hk); simp; omega)) (by omega) HONE.out) (by unfold maxLen; omega) (by omega) ?_
        intro v' w5 happ
        rw [Nat.zero_add, List.nil_append] at happ
        obtain ⟨F5, A5, c5, rfl, hv5, ht5⟩ := happ.all
        refine hK _ _ _ (by simp only [Act.put, List.setIfInBounds_toArray, List.set_cons_zero, List.set_cons_succ, Nat.reduceAdd, n6, n3, n6] <;> rfl) ⟨F5, A5, c5, rfl, hv5, fun k hk => ?_⟩ (kept_fresh hR ht5.kept (by simp; omega)) ⟨fun h => (ht5.kept.block _ (lt_of_block h) (by simp; omega)).trans h, trivial⟩
        rcases ht5.new k hk with h9 | h9
        · simp at h9; omega
        · have := hR.size; omega
      · intro us v hR hn ho K hK
        clear ho
        obtain ⟨b0, b1, b2, _, _, _⟩ := three ((hR.block w.heap.size (by omega) (by simp)).trans HBOX.out)
        rw [if_pos (by rfl)]
        go_simp
        refine hK _ _ _ (by simp only [Act.put, List.setIfInBounds_toArray, List.set_cons_zero, List.set_cons_succ, Nat.reduceAdd] <;> rfl) ?_ hR ⟨fun h => h, fun h => h, fun h => h, trivial⟩
        refine only_mk (v := v) ?_
        with_reducible rfl
      · intro us v hR hn ho K hK
        clear ho
        obtain ⟨b0, b1, b2, _, _, _⟩ := three ((hR.block w.heap.size (by omega) (by simp)).trans HBOX.out)
        rw [if_pos (by rfl)]
        go_simp
        refine hK _ _ _ (by simp only [Act.put, List.setIfInBounds_toArray, List.set_cons_zero, List.set_cons_succ, Nat.reduceAdd] <;> rfl) ?_ hR ⟨fun h => h, fun h => h, fun h => h, trivial⟩
        refine only_mk (v := v) ?_
        with_reducible rfl
      · intro us v hR hn ho K hK
        obtain ⟨n9, -⟩ := hn
        have n9 : us 9 = _ := n9
        clear ho
        obtain ⟨b0, b1, b2, _, _, _⟩ := three ((hR.block w.heap.size (by omega) (by simp)).trans HBOX.out)
        rw [if_pos (by rfl)]
        go_simp
        refine hK _ _ _ (by simp only [Act.put, List.setIfInBounds_toArray, List.set_cons_zero, List.set_cons_succ, Nat.reduceAdd, n9] <;> rfl) ?_ hR ⟨fun h => h, fun h => h, fun h => h, trivial⟩
        refine only_mk (v := v) ?_
        with_reducible rfl
      · intro us v hR hn ho K hK
        obtain ⟨n8, n10, -⟩ := hn
        have n8 : us 8 = _ := n8
        have n10 : us 10 = _ := n10
        clear ho
        obtain ⟨b0, b1, b2, _, _, _⟩ := three ((hR.block w.heap.size (by omega) (by simp)).trans HBOX.out)
        have hsl2 := HSL.out
        rw [if_pos (by rfl)]
        go_simp
        refine hK _ _ _ (by simp only [Act.put, List.setIfInBounds_toArray, List.set_cons_zero, List.set_cons_succ, Nat.reduceAdd, n8, n10] <;> rfl) ?_ hR ⟨fun h => h, fun h => h, fun h => h, trivial⟩
        refine only_mk (v := v) ?_
        with_reducible rfl
      · intro us v hR hn ho K hK
        obtain ⟨n7, n11, -⟩ := hn
        have n11 : us 11 = _ := n11
        clear ho
        obtain ⟨b0, b1, b2, _, _, _⟩ := three ((hR.block w.heap.size (by omega) (by simp)).trans HBOX.out)
        obtain ⟨F5, A5, c5, n7, hv5, hF5⟩ := n7
        refine step_append_vec _ (by rfl) (.tmp 36) (.tmp 40) 41 41 (by rfl) 9 i0 _ 1 16 Try.underlying41 hi0 hz0 hz1 hz2 rfl F5 A5 j c5 ((xs.map .string).take j) _ (xs.length - (j + 1)) ((xs.map .string).drop (j + 1)) n7 n11 hv5 (HSRC.out _ _ _ (HV4.out.kept hR (fun k hk => by have := H0.out.lt k (HK4.out k hk); simp; omega)) HONE.out) (by unfold maxLen; omega) (by omega) ?_
        intro v' w5 happ
        rw [HMAP.out, HYL.out] at happ
        obtain ⟨F6, A6, c6, rfl, hv6, ht6⟩ := happ.all
        refine hK _ _ _ (by simp only [Act.put, List.setIfInBounds_toArray, List.set_cons_zero, List.set_cons_succ, Nat.reduceAdd, n11, n7, n11] <;> rfl) ⟨F6, A6, c6, rfl, hv6, fun k hk => ?_⟩ (kept_fresh hR ht6.kept hF5) ⟨fun h => (ht6.kept.block _ (lt_of_block h) (fun hm => by have := hF5 _ hm; omega)).trans h, trivial⟩
        rcases ht6.new k hk with h9 | h9
        · exact hF5 k h9
        · have := hR.size; omega
      · intro us v hR hn ho K hK
        obtain ⟨n0, n1, n2, n12, -⟩ := hn
        have n0 : us 0 = _ := n0
        have n1 : us 1 = _ := n1
        have n2 : us 2 = _ := n2
        clear ho
        obtain ⟨b0, b1, b2, _, _, _⟩ := three ((hR.block w.heap.size (by omega) (by simp)).trans HBOX.out)
        obtain ⟨F6, A6, c6, n12, hv6, hF6⟩ := n12
        have hR4 : RefNet v G (.agg #[.int .i64 (s.n : Int), .int .i64 (s.m : Int), .slice W ws.length c]) s W c ws := H4.out.kept hR (fun k hk2 => by have := H0.out.lt k hk2; simp; omega)
        rw [if_pos (by rfl)]
        clear b0 b1 b2
        go_simp
        refine (ref_with hR4 a b hv6 HOK.out (by omega)).mono ?_
        rintro e v' ⟨y, W', c', ws', G', rfl, hy, hl', hG', hb'⟩
        dsimp only
        exact hK _ _ _ (by simp only [Act.put, List.setIfInBounds_toArray, List.set_cons_zero, List.set_cons_succ, Nat.reduceAdd, n0, n1, n2, n12] <;> rfl) ⟨W', c', ws', G', hy, hl', fun k hk => (hG' k hk).elim .inl (fun h => .inr (h.elim (hF6 k) fun h => Nat.le_trans hR.size h))⟩ (kept_fresh hR (Kept.of_below hb' []) (by simp)) ⟨fun h => (hb'.block _ (lt_of_block h)).trans h, trivial⟩
      · intro us v hR hn ho K hK
        clear ho
        obtain ⟨b0, b1, b2, _, _, _⟩ := three ((hR.block w.heap.size (by omega) (by simp)).trans HBOX.out)
        rw [if_pos (by rfl)]
        go_simp
        refine hK _ _ _ (by simp only [Act.put, List.setIfInBounds_toArray, List.set_cons_zero, List.set_cons_succ, Nat.reduceAdd] <;> rfl) ?_ hR ⟨fun h => h, fun h => h, fun h => h, fun h => h, fun h => h, fun h => h, trivial⟩
        refine only_mk (v := v) ?_
        with_reducible rfl
      · intro us v hR hn ho K hK
        obtain ⟨n13, ns, -⟩ := hn
        clear ho
        obtain ⟨b0, b1, b2, _, _, _⟩ := three ((hR.block w.heap.size (by omega) (by simp)).trans HBOX.out)
        obtain ⟨W', c', ws', G', hy, hl', hG'⟩ := n13
        have hres : v.heap[w.heap.size + 1]? = some (.cells #[.int .i64 0, .int .i64 0, .slice none 0 0] 29 (0, 0)) := ns
        have n13 := hy.v
        rw [if_pos (by rfl)]
        refine wp_store_all 29 (.tmp 8) (.tmp 42) (by rfl) (w.heap.size + 1) _ _ _ (by rfl) n13 hres rfl (by kernel_rfl) (by simp [Value.oneCell']) ?_
        intro v' hq hk
        rw [n13] at hy
        refine hK undef _ _ (by simp only [Act.put, List.setIfInBounds_toArray, List.set_cons_zero, List.set_cons_succ, Nat.reduceAdd, n13] <;> rfl) ⟨W', c', ws', G', _, hy.kept hk (fun k hk2 => ?_), hl', hG', hq⟩ (hR.trans hk) trivial
        rcases hG' k hk2 with h | h
        · have := H0.out.lt k h; simp; omega
        · simp; omega
      · intro us v hR hn ho K hK
        obtain ⟨n14, -⟩ := hn
        have n14 : us 14 = _ := n14
        clear ho
        obtain ⟨b0, b1, b2, _, _, _⟩ := three ((hR.block w.heap.size (by omega) (by simp)).trans HBOX.out)
        rw [if_pos (by rfl)]
        go_simp
        refine hK _ _ _ (by simp only [Act.put, List.setIfInBounds_toArray, List.set_cons_zero, List.set_cons_succ, Nat.reduceAdd, n14] <;> rfl) ?_ hR ⟨fun h => h, fun h => h, fun h => h, fun h => h, fun h => h, fun h => h, trivial⟩
        refine only_mk (v := v) ?_
        with_reducible rfl
      · intro us v hR hn ho K hK
        clear ho
        obtain ⟨b0, b1, b2, _, _, _⟩ := three ((hR.block w.heap.size (by omega) (by simp)).trans HBOX.out)
        rw [if_pos (by rfl)]
        go_simp
        refine hK _ _ _ (by simp only [Act.put, List.setIfInBounds_toArray, List.set_cons_zero, List.set_cons_succ, Nat.reduceAdd] <;> rfl) ?_ hR ⟨fun h => h, fun h => h, fun h => h, fun h => h, fun h => h, fun h => h, trivial⟩
        refine only_mk (v := v) ?_
        with_reducible rfl
    case hla =>
      intro us v hR hl
      obtain ⟨n0, n1, n2, n4, n5, n6, n8, n9, n10, n11, n14, n15, n16, n17, -⟩ := need_last hl [0, 1, 2, 4, 5, 6, 8, 9, 10, 11, 14, 15, 16, 17] (by kernel_rfl)
      have n0 : us 0 = _ := n0
      have n1 : us 1 = _ := n1
      have n2 : us 2 = _ := n2
      have n4 : us 4 = _ := n4
      have n5 : us 5 = _ := n5
      have n6 : us 6 = _ := n6
      have n8 : us 8 = _ := n8
      have n9 : us 9 = _ := n9
      have n10 : us 10 = _ := n10
      have n11 : us 11 = _ := n11
      have n14 : us 14 = _ := n14
      have n16 : us 16 = _ := n16
      have n17 : us 17 = _ := n17
      obtain ⟨b0, b1, b2, _, _, _⟩ := three ((hR.block w.heap.size (by omega) (by simp)).trans HBOX.out)
      simp only [n0, n1, n2, n4, n5, n6, n8, n9, n10, n11, n14, n16, n17]
      clear hl n0 n1 n2 n4 n5 n6 n8 n9 n10 n11 n14 n16 n17
      obtain ⟨W', c', ws', G', x2, hy, hl', hG', hq⟩ := n15
      have HY := Lib.hid hy
      have HQ := Lib.hid hq
      have HRR := Lib.hid hR
      clear hy hq hR
      go_wp2_with fail
      refine ret_row3 Try.results15 (w.heap.size + 1) _ _ _ _ _ rfl HQ.out rfl rfl Try.underlying29 rfl (by kernel_rfl) rfl ?_
      have hfin : DelSaid w G (s.deliver a b (j : Int)) ws.length (s.look a b (j : Int)) (s.isAt a b (j : Int)) (.returned (.tuple #[.agg #[.int .i64 (s.n : Int), .int .i64 (s.m : Int), x2], .string t, .bool true])) v := by
        rw [HKK.out, HE.out, HT.out]
        exact ⟨_, W', c', ws', G', rfl, HY.out, hl', fun k hk => (hG' k hk).imp id (fun h => by omega), HBW.out.trans (HRR.out.below HBW.out.size (by simp))⟩
      exact hfin
end
end Go.Proofs.Ytndiclkfincbgaa.Net
