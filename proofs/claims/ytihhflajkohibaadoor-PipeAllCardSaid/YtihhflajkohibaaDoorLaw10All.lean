/- Layer 10: the walk of PipeAll. Conditions: the slice of acts lies in memory that came in; the table of layer 5 and the variable of package errors are laid. -/
import Derived.Test.YtihhflajkohibaaDoorPipeAllQ
import Derived.BigQuiet
namespace Go.Proofs.YtihhflajkohibaaDoor.Pipe
set_option linter.unusedSimpArgs false
set_option linter.unusedVariables false
set_option maxRecDepth 100000
open Go.RowKit
open Go.Proofs.YtihhflajkohibaaDoor
open Go.Proofs.YtihhflajkohibaaDoor.Link (LE Fr EndIs)
open Go.Proofs.YtihhflajkohibaaDoor.Net (NS NetIs)
set_option maxRecDepth 100000 in
set_option maxHeartbeats 16000000 in
theorem all_walk (epoch first window queue wait room : Int) (hu : Link.u first = first) (A : Option Addr) (c : Nat) (l : List Act10) (w : World) (hA : Sl w 0 w.heap.size 5 A l.length (l.flatMap Act10.cells)) (hy : l.length ≤ maxLen) (ht : TabAt w) (hg : Frame.ErrAt w) :
    Calls Tryd.prog 4 #[.int .i64 epoch, .int .u64 first, .int .i64 window, .int .i64 queue, .int .i64 wait, .int .i64 room, .slice A l.length c] w fun e w' => e = .returned (.bool true) ∧ Below w.heap.size w w' := by
  have hy' := hy
  unfold maxLen at hy
  have HU := Lib.hid hu
  have HV := Lib.hid (Env.of ht hg)
  clear hu ht hg
  go_enter Tryd.func4, Tryd.ntmps4
  go_wp2_with fail
  refine (stand_new epoch first window queue wait room HU.out w _ (Below.refl _ _) HV.out).mono ?_
  rintro e w1 ⟨p, rfl, h1⟩
  have H0 := Lib.hid h1
  clear h1
  go_wp2_with fail
  refine (awake_any _ H0.out.env).mono ?_
  rintro e w2 ⟨rfl, hb⟩
  have H1 := Lib.hid (H0.out.after hb)
  clear hb
  go_wp2_with fail
  refine (few_any (hA.below H1.out.below (Nat.le_refl _)) hy').mono ?_
  rintro e w3 ⟨⟨b0, rfl, hfew⟩, rfl⟩
  have HFEW := Lib.hid hfew
  clear hfew
  cases b0
  · go_wp2_with fail
    refine (awake_any _ H1.out.env).mono ?_
    rintro e w3 ⟨rfl, hb⟩
    have H3 := Lib.hid (H1.out.after hb)
    clear hb
    go_wp2_with fail
    go_ret
    exact ⟨rfl, H3.out.below⟩
  · obtain ⟨h80, _⟩ := HFEW.out rfl
    by_cases hcond : 0 ≤ epoch ∧ epoch ≤ 65535 ∧ 8 ≤ room
    · obtain ⟨e0, e1, e2⟩ := hcond
      have d0 : decide (epoch < 0) = false := by simp; omega
      have d1 : decide (65535 < epoch) = false := by simp; omega
      have d2 : decide (room < 8) = false := by simp; omega
      obtain ⟨mm, hmm⟩ : ∃ mm, Net.clampN room 1000 = mm := ⟨_, rfl⟩
      have HKS := Lib.hid (show Kin epoch mm (new epoch first window queue wait room) from by rw [← hmm]; exact Kin.start epoch first window queue wait room e0 e1)
      have HM8 := Lib.hid (show 8 ≤ mm from by rw [← hmm]; unfold Net.clampN; omega)
      clear e0 e1 e2 hmm
      obtain ⟨F, hst⟩ := St10.start H1.out
      have hst1 := hst.more (w' := w2.alloc (.cells zero2 29)) (o := boxT w2.heap.size zero2 29) ((Below.refl _ _).alloc (Nat.le_refl _) _) (heap_alloc_new w2 _) (boxT_local _ _ _) (fun j hj => by simp [boxT] at hj; omega)
      have hst2 := hst1.more (w' := (w2.alloc (.cells zero2 29)).alloc (.cells zero2 29)) (o := boxT (w2.heap.size + 1) zero2 29) ((Below.refl _ _).alloc (Nat.le_refl _) _) (heap_new_at _ _ _ (by simp)) (boxT_local _ _ _) (fun j hj => by simp [boxT] at hj; simp; omega)
      have hbl : Below w.heap.size w ((w2.alloc (.cells zero2 29)).alloc (.cells zero2 29)) := H1.out.below.trans ((((Below.refl _ _).alloc (Nat.le_refl _) _).alloc (by simp) _).mono H1.out.env.le)
      have HOK := Lib.hid (show AllK first epoch mm w p w2.heap.size (w2.heap.size + 1) 0 ((w2.alloc (.cells zero2 29)).alloc (.cells zero2 29)) from ⟨_, _, rfl, hst2, hbl, Inv.start epoch first window queue wait room HU.out, HKS.out⟩)
      unfold zero2 at HOK
      have hi2 := info_parts Link.str_info
      clear hst hst1 hst2 hbl
      go_wp2_with fail
      go_loopw [18] (fun i wr => ∃ k : Nat, k ≤ l.length ∧ i = .int .i64 (k : Int) ∧ AllK first epoch mm w p w2.heap.size (w2.heap.size + 1) k wr) (fun i _ => l.length - (intOf i).toNat)
      case atStart => exact ⟨0, Nat.zero_le _, rfl, HOK.out⟩
      case round =>
        obtain ⟨k, hk, rfl, M, t, hMp, hs, hb, hi, hkn⟩ := hrel
        subst hMp
        obtain ⟨W, hW⟩ : ∃ W, M.wc t = W := ⟨_, rfl⟩
        obtain ⟨T, hT⟩ : ∃ T, M.tc t = T := ⟨_, rfl⟩
        rw [hW, hT] at hs
        have HWT := Lib.hid (And.intro hW hT)
        have HS := Lib.hid hs
        have HB := Lib.hid hb
        have HI := Lib.hid hi
        have HKN := Lib.hid hkn
        clear hs hi hW hT hkn
        by_cases hlt : k < l.length
        · obtain ⟨g, o, rfl, _, hgl, hat⟩ := acts_at hA hlt
          have i0' : (0 : Int) ≤ (k : Int) := by omega
          have i1 : (k : Int) < (l.length : Int) := by omega
          generalize l[k] = a at *
          have HAT := Lib.hid hat
          have hk100 : k ≤ 100 := by omega
          clear hat hb hk
          go_wp2_with fail
          refine' wp_flow [only 0 _, only 1 _, only 2 _, only 3 _, only 4 (.agg #[.int .i64 a.K, .int .i64 a.Side, .int .i64 a.N, .int .i64 a.X, .string a.S]), only 5 (.agg W), only 6 (.agg T), (fun us v => ∃ (M' : M10) (t' : T10) (ok : Bool), M'.p = M.p ∧ us 7 = .tuple #[.agg (M'.wc t'), .agg (M'.tc t'), .bool ok] ∧ St10 w.heap.size M' t' [boxT (w2.heap.size + 1) T 29, boxT w2.heap.size W 29] v ∧ Inv first (k + 1) t' ∧ Kin epoch mm t'.s), (fun us _ => us 8 = us 7 ∧ ∃ a b c, us 7 = .tuple #[a, b, c]), (fun us _ => ∀ a b c, us 7 = .tuple #[a, b, c] → us 9 = a), (fun us _ => ∀ a b c, us 7 = .tuple #[a, b, c] → us 10 = b), (fun us _ => ∀ a b c, us 7 = .tuple #[a, b, c] → us 11 = c), (fun us v => ∃ (M' : M10) (t' : T10) (ok : Bool), M'.p = M.p ∧ us 7 = .tuple #[.agg (M'.wc t'), .agg (M'.tc t'), .bool ok] ∧ St10 w.heap.size M' t' [boxT (w2.heap.size + 1) T 29, boxT w2.heap.size (M'.wc t') 29] v ∧ Inv first (k + 1) t' ∧ Kin epoch mm t'.s), (fun us v => ∃ (M' : M10) (t' : T10) (ok : Bool), M'.p = M.p ∧ us 7 = .tuple #[.agg (M'.wc t'), .agg (M'.tc t'), .bool ok] ∧ St10 w.heap.size M' t' [boxT (w2.heap.size + 1) (M'.tc t') 29, boxT w2.heap.size (M'.wc t') 29] v ∧ Inv first (k + 1) t' ∧ Kin epoch mm t'.s), (fun us _ => us 14 = us 11), (fun _ v => St10 w.heap.size M t [boxT (w2.heap.size + 1) T 29, boxT w2.heap.size W 29] v)] (fun v => Below w.heap.size w v) [[], [], [], [1, 2], [3], [15], [15], [0, 4, 5, 6, 15], [7], [8], [8], [8], [7, 9], [10, 12], [11]] [[], [], [], [], [], [], [], [15], [], [], [], [], [7], [12], []] [[], [], [], [], [], [], [], [], [], [], [], [], [], [], []] [[15], [15], [15], [15], [15], [15], [15], [], [7], [7, 8, 10, 11], [7, 8, 9, 11, 12], [7, 8, 9, 10, 12, 13], [8, 9, 10, 11], [8, 9, 10, 11], [8, 9, 10, 11, 13]] [7, 8, 9, 10, 11, 12, 13, 14, 15] [0, 0, 0, 6, 14, 0, 0, 127, 255, 511, 511, 511, 1023, 6143, 16383] _ (fun us => ?hfr) (by kernel_rfl) (by kernel_rfl) (by kernel_rfl) ⟨only_still _, only_still _, only_still _, only_still _, only_still _, only_still _, only_still _, trivial, trivial, trivial, trivial, trivial, trivial, trivial, trivial, trivial, trivial⟩ (below_drewN HB.out 1) (by simp) (HS.out.after (below_drewN (Below.refl _ _) 1)) ?hst ?hla
          case hfr => (simp only [List.cons_append, List.nil_append, putAll, Act.put, List.setIfInBounds_toArray, List.set_cons_zero, List.set_cons_succ, Nat.reduceAdd]; rfl)
          case hst =>
            refine ⟨?_, ?_, ?_, ?_, ?_, ?_, ?_, ?_, ?_, ?_, ?_, ?_, ?_, ?_, ?_, trivial⟩
            · intro us v hR hn ho K hK
              clear ho
              obtain ⟨x0, x1, x2, x3, x4⟩ := HAT.out.of_below hR hgl
              rw [if_pos (by rfl)]
              go_simp
              refine hK _ _ _ (by simp only [Act.put, List.setIfInBounds_toArray, List.set_cons_zero, List.set_cons_succ, Nat.reduceAdd] <;> rfl) ?_ hR ⟨fun h => h, trivial⟩
              refine only_mk (v := v) ?_
              with_reducible rfl
            · intro us v hR hn ho K hK
              clear ho
              obtain ⟨x0, x1, x2, x3, x4⟩ := HAT.out.of_below hR hgl
              rw [if_pos (by rfl)]
              go_simp
              refine hK _ _ _ (by simp only [Act.put, List.setIfInBounds_toArray, List.set_cons_zero, List.set_cons_succ, Nat.reduceAdd] <;> rfl) ?_ hR ⟨fun h => h, trivial⟩
              refine only_mk (v := v) ?_
              with_reducible rfl
            · intro us v hR hn ho K hK
              clear ho
              obtain ⟨x0, x1, x2, x3, x4⟩ := HAT.out.of_below hR hgl
              rw [if_pos (by rfl)]
              go_simp
              refine hK _ _ _ (by simp only [Act.put, List.setIfInBounds_toArray, List.set_cons_zero, List.set_cons_succ, Nat.reduceAdd] <;> rfl) ?_ hR ⟨fun h => h, trivial⟩
              refine only_mk (v := v) ?_
              with_reducible rfl
            · intro us v hR hn ho K hK
              obtain ⟨n1, n2, -⟩ := hn
              have n1 : us 1 = _ := n1
              have n2 : us 2 = _ := n2
              clear ho
              obtain ⟨x0, x1, x2, x3, x4⟩ := HAT.out.of_below hR hgl
              rw [if_pos (by rfl)]
              go_simp
              refine hK _ _ _ (by simp only [Act.put, List.setIfInBounds_toArray, List.set_cons_zero, List.set_cons_succ, Nat.reduceAdd, n1, n2] <;> rfl) ?_ hR ⟨fun h => h, trivial⟩
              refine only_mk (v := v) ?_
              with_reducible rfl
            · intro us v hR hn ho K hK
              obtain ⟨n3, -⟩ := hn
              have n3 : us 3 = _ := n3
              clear ho
              obtain ⟨x0, x1, x2, x3, x4⟩ := HAT.out.of_below hR hgl
              rw [if_pos (by rfl)]
              go_simp
              refine hK _ _ _ (by simp only [Act.put, List.setIfInBounds_toArray, List.set_cons_zero, List.set_cons_succ, Nat.reduceAdd, n3] <;> rfl) ?_ hR ⟨fun h => h, trivial⟩
              refine only_mk (v := v) ?_
              with_reducible rfl
            · intro us v hR hn ho K hK
              obtain ⟨ns, -⟩ := hn
              clear ho
              obtain ⟨x0, x1, x2, x3, x4⟩ := HAT.out.of_below hR hgl
              have hbx := ns.x 1 rfl
              have hcs : (Tryd.prog.info? 29).map (·.size) = some W.size := by rw [← HWT.out.1]; kernel_rfl
              rw [if_pos (by rfl)]
              refine wp_load_row 29 _ (by rfl) w2.heap.size (by rfl) 29 W (0, 0) _ hbx Tryd.underlying29 rfl hcs ?_
              refine hK _ _ _ (by simp only [Act.put, List.setIfInBounds_toArray, List.set_cons_zero, List.set_cons_succ, Nat.reduceAdd] <;> rfl) ?_ hR ⟨fun h => h, trivial⟩
              exact only_mk (v := v) rfl
            · intro us v hR hn ho K hK
              obtain ⟨ns, -⟩ := hn
              clear ho
              obtain ⟨x0, x1, x2, x3, x4⟩ := HAT.out.of_below hR hgl
              have hbx := ns.x 0 rfl
              have hcs : (Tryd.prog.info? 29).map (·.size) = some T.size := by rw [← HWT.out.2]; kernel_rfl
              rw [if_pos (by rfl)]
              refine wp_load_row 29 _ (by rfl) (w2.heap.size + 1) (by rfl) 29 T (0, 0) _ hbx Tryd.underlying29 rfl hcs ?_
              refine hK _ _ _ (by simp only [Act.put, List.setIfInBounds_toArray, List.set_cons_zero, List.set_cons_succ, Nat.reduceAdd] <;> rfl) ?_ hR ⟨fun h => h, trivial⟩
              exact only_mk (v := v) rfl
            · intro us v hR hn ho K hK
              obtain ⟨n0, n4, n5, n6, ns, -⟩ := hn
              have n0 : us 0 = _ := n0
              have n4 : us 4 = _ := n4
              have n5 : us 5 = _ := n5
              have n6 : us 6 = _ := n6
              clear ho
              obtain ⟨x0, x1, x2, x3, x4⟩ := HAT.out.of_below hR hgl
              have hpl := play_any3 ns HI.out HKN.out hk100 a
              rw [HWT.out.1, HWT.out.2] at hpl
              simp only [Act10.cells] at hpl
              rw [if_pos (by rfl)]
              clear x0 x1 x2 x3 x4
              have HPLY := Lib.hid hpl
              clear hpl
              go_simp
              refine (HPLY.out).mono ?_
              rintro e v' ⟨M', t', ok, hp, rfl, hs', hb', hi', hq'⟩
              dsimp only
              exact hK _ _ _ (by simp only [Act.put, List.setIfInBounds_toArray, List.set_cons_zero, List.set_cons_succ, Nat.reduceAdd, n0, n4, n5, n6] <;> rfl) ⟨M', t', ok, hp, rfl, hs', hi', hq'⟩ (hR.trans hb') trivial
            · intro us v hR hn ho K hK
              obtain ⟨n7, -⟩ := hn
              clear ho
              obtain ⟨x0, x1, x2, x3, x4⟩ := HAT.out.of_below hR hgl
              obtain ⟨M', t', ok, hp, n7, hs', hi', hq'⟩ := id n7
              rw [if_pos (by rfl)]
              go_simp
              exact hK _ _ _ (by simp only [Act.put, List.setIfInBounds_toArray, List.set_cons_zero, List.set_cons_succ, Nat.reduceAdd, n7] <;> rfl) ⟨n7.symm, _, _, _, n7⟩ hR ⟨fun h => h, trivial⟩
            · intro us v hR hn ho K hK
              obtain ⟨n8, -⟩ := hn
              clear ho
              obtain ⟨x0, x1, x2, x3, x4⟩ := HAT.out.of_below hR hgl
              obtain ⟨e8, a7, b7, c7, n7⟩ := n8
              have n8 : us 8 = _ := e8.trans n7
              rw [if_pos (by rfl)]
              go_simp
              exact hK _ _ _ (by simp only [Act.put, List.setIfInBounds_toArray, List.set_cons_zero, List.set_cons_succ, Nat.reduceAdd, n7, n8] <;> rfl) (fun a b c h => (tup3 (n7.symm.trans h)).1) hR ⟨fun h => h, fun h => h, fun h => h, fun h => h, trivial⟩
            · intro us v hR hn ho K hK
              obtain ⟨n8, -⟩ := hn
              clear ho
              obtain ⟨x0, x1, x2, x3, x4⟩ := HAT.out.of_below hR hgl
              obtain ⟨e8, a7, b7, c7, n7⟩ := n8
              have n8 : us 8 = _ := e8.trans n7
              rw [if_pos (by rfl)]
              go_simp
              exact hK _ _ _ (by simp only [Act.put, List.setIfInBounds_toArray, List.set_cons_zero, List.set_cons_succ, Nat.reduceAdd, n7, n8] <;> rfl) (fun a b c h => (tup3 (n7.symm.trans h)).2.1) hR ⟨fun h => h, fun h => h, fun h => h, fun h => h, fun h => h, trivial⟩
            · intro us v hR hn ho K hK
              obtain ⟨n8, -⟩ := hn
              clear ho
              obtain ⟨x0, x1, x2, x3, x4⟩ := HAT.out.of_below hR hgl
              obtain ⟨e8, a7, b7, c7, n7⟩ := n8
              have n8 : us 8 = _ := e8.trans n7
              rw [if_pos (by rfl)]
              go_simp
              exact hK _ _ _ (by simp only [Act.put, List.setIfInBounds_toArray, List.set_cons_zero, List.set_cons_succ, Nat.reduceAdd, n7, n8] <;> rfl) (fun a b c h => (tup3 (n7.symm.trans h)).2.2) hR ⟨fun h => h, fun h => h, fun h => h, fun h => h, fun h => h, fun h => h, trivial⟩
            · intro us v hR hn ho K hK
              obtain ⟨n7, n9, -⟩ := hn
              clear ho
              obtain ⟨x0, x1, x2, x3, x4⟩ := HAT.out.of_below hR hgl
              obtain ⟨M', t', ok, hp, n7, hs', hi', hq'⟩ := n7
              have n9 : us 9 = _ := n9 _ _ _ n7
              rw [if_pos (by rfl)]
              refine wp_store_all 29 (.tmp 16) (.tmp 74) (by rfl) w2.heap.size W (M'.wc t') 29 (by rfl) n9 (hs'.x 1 rfl) (by rw [← HWT.out.1]; rfl) (by kernel_rfl) (two_one M' t').1 ?_
              intro v' hq hkk
              obtain ⟨k1, k2⟩ := hs'.boxAll 1 rfl hq hkk
              exact hK undef _ _ (by simp only [Act.put, List.setIfInBounds_toArray, List.set_cons_zero, List.set_cons_succ, Nat.reduceAdd, n9] <;> rfl) ⟨M', t', ok, hp, n7, k1, hi', hq'⟩ (hR.trans k2) ⟨fun h => h, fun h => h, fun h => h, fun h => h, trivial⟩
            · intro us v hR hn ho K hK
              obtain ⟨n10, n12, -⟩ := hn
              clear ho
              obtain ⟨x0, x1, x2, x3, x4⟩ := HAT.out.of_below hR hgl
              obtain ⟨M', t', ok, hp, n7, hs', hi', hq'⟩ := n12
              have n10 : us 10 = _ := n10 _ _ _ n7
              rw [if_pos (by rfl)]
              refine wp_store_all 29 (.tmp 17) (.tmp 75) (by rfl) (w2.heap.size + 1) T (M'.tc t') 29 (by rfl) n10 (hs'.x 0 rfl) (by rw [← HWT.out.2]; rfl) (by kernel_rfl) (two_one M' t').2 ?_
              intro v' hq hkk
              obtain ⟨k1, k2⟩ := hs'.boxAll 0 rfl hq hkk
              exact hK undef _ _ (by simp only [Act.put, List.setIfInBounds_toArray, List.set_cons_zero, List.set_cons_succ, Nat.reduceAdd, n10] <;> rfl) ⟨M', t', ok, hp, n7, k1, hi', hq'⟩ (hR.trans k2) ⟨fun h => h, fun h => h, fun h => h, fun h => h, trivial⟩
            · intro us v hR hn ho K hK
              obtain ⟨n11, -⟩ := hn
              clear ho
              obtain ⟨x0, x1, x2, x3, x4⟩ := HAT.out.of_below hR hgl
              rw [if_pos (by rfl)]
              go_simp
              exact hK _ _ _ (by simp only [Act.put, List.setIfInBounds_toArray, List.set_cons_zero, List.set_cons_succ, Nat.reduceAdd] <;> rfl) rfl hR ⟨fun h => h, fun h => h, fun h => h, fun h => h, fun h => h, trivial⟩
          case hla =>
            intro us v hR hl
            obtain ⟨n0, n1, n2, n3, n4, n5, n6, n8, n9, n10, n11, n13, n14, -⟩ := need_last hl [0, 1, 2, 3, 4, 5, 6, 8, 9, 10, 11, 13, 14] (by kernel_rfl)
            have n0 : us 0 = _ := n0
            have n1 : us 1 = _ := n1
            have n2 : us 2 = _ := n2
            have n3 : us 3 = _ := n3
            have n4 : us 4 = _ := n4
            have n5 : us 5 = _ := n5
            have n6 : us 6 = _ := n6
            obtain ⟨x0, x1, x2, x3, x4⟩ := HAT.out.of_below hR hgl
            simp only [n0, n1, n2, n3, n4, n5, n6]
            clear hl n0 n1 n2 n3 n4 n5 n6
            obtain ⟨M', t', ok, hp, n7, hs', hi', hq'⟩ := n13
            have n11 : us 11 = _ := n11 _ _ _ n7
            have n14 : us 14 = _ := n14.trans n11
            simp only [n14]
            have HN := Lib.hid (show AllK first epoch mm w M.p w2.heap.size (w2.heap.size + 1) (k + 1) v from ⟨M', t', hp, hs', hR, hi', hq'⟩)
            have HB' := Lib.hid hR
            clear n7 n8 n9 n10 n11 n14 hs' hi' hR x0 x1 x2 x3 x4 hq' hp
            cases ok
            · go_wp2_with fail
              go_ret
              exact ⟨rfl, HB'.out⟩
            · go_wp2_with fail
              go_roundw
              case rel => exact ⟨k + 1, hlt, by go_num, HN.out⟩
              case measure => simp [intOf]; omega
        · have hk2 : k = l.length := by omega
          have hd : decide ((k : Int) < (l.length : Int)) = false := by simp; omega
          have hk100 : k ≤ 80 := by omega
          clear hb hk2 hk
          go_wp2_with fail
          go_loopw [20] (fun s wx => ∃ m : Nat, m ≤ 2 ∧ s = .int .i64 (m : Int) ∧ Now10 w M t [boxT (w2.heap.size + 1) T 29, boxT w2.heap.size W 29] (t.s.lostTo m) wx) (fun s _ => 2 - (intOf s).toNat)
          case atStart => exact ⟨0, by omega, rfl, M.F, HS.out, HB.out⟩
          case round =>
            obtain ⟨m, hm, rfl, hn⟩ := hrel
            by_cases hm2 : m < 2
            · have dm : decide ((m : Int) < 2) = true := by simp; omega
              obtain ⟨me, hme⟩ : ∃ me : Bool, me.toNat = m := ⟨decide (m = 1), by have : m = 0 ∨ m = 1 := by omega
                                                                                  rcases this with rfl | rfl <;> rfl⟩
              obtain ⟨m', r, e1, e2, e3, e4, _, hr2, hmr⟩ := no_nat me
              obtain rfl : m' = m := e1.symm.trans hme
              have HST := Lib.hid (show t.s.lostTo (m' + 1) = (t.s.lostTo m').loseN me 1000 from by rw [← hme]; exact t.s.lostTo_step me)
              have HE3 := Lib.hid e3
              have HN := Lib.hid hn
              clear hn hme e1 e2 e3 e4 hr2 hmr hm
              generalize t.s.lostTo m' = sm at *
              go_wp2_with fail
              go_loopw [21] (fun s wx => ∃ k : Nat, k ≤ 1000 ∧ s = .int .i64 (k : Int) ∧ Now10 w M t [boxT (w2.heap.size + 1) T 29, boxT w2.heap.size W 29] (sm.loseN me k) wx) (fun s _ => 1000 - (intOf s).toNat)
              case atStart => exact ⟨0, by omega, rfl, HN.out⟩
              case round =>
                obtain ⟨k2, hk2, rfl, hn2⟩ := hrel
                by_cases hkl : k2 < 1000
                · have dk : decide ((k2 : Int) < 1000) = true := by simp; omega
                  have hc := hn2.act (fun F j e => lose_yes j e.le me 0)
                  rw [HE3.out] at hc
                  have HC := Lib.hid hc
                  clear hc hn2
                  go_wp2_with fail
                  refine (HC.out).mono ?_
                  generalize (sm.loseN me k2).has me 0 = bb
                  rintro e w7 ⟨rfl, h7⟩
                  have H7 := Lib.hid (show Now10 w M t [boxT (w2.heap.size + 1) T 29, boxT w2.heap.size W 29] (sm.loseN me (k2 + 1)) w7 from h7)
                  clear h7
                  go_wp2_with fail
                  go_roundw
                  case rel => exact ⟨k2 + 1, hkl, by go_num, H7.out⟩
                  case measure => simp [intOf]; omega
                · have hk3 : k2 = 1000 := by omega
                  have dk : decide ((k2 : Int) < 1000) = false := by simp; omega
                  have H8 := Lib.hid (show Now10 w M t [boxT (w2.heap.size + 1) T 29, boxT w2.heap.size W 29] (t.s.lostTo (m' + 1)) wr from by rw [HST.out, ← hk3]; exact hn2)
                  clear hn2 hk3 hk2
                  go_wp2_with fail
                  go_roundw
                  case rel => exact ⟨m' + 1, by omega, by go_num, H8.out⟩
                  case measure => simp [intOf]; omega
            · have hm3 : m = 2 := by omega
              have dm : decide ((m : Int) < 2) = false := by simp; omega
              have HN := Lib.hid (show ∃ s, RdP first t.t 0 s ∧ Now10 w M t [boxT (w2.heap.size + 1) T 29, boxT w2.heap.size W 29] s wr from ⟨t.s.lostTo 2, RdP.start HI.out HKN.out HS.out.pipe.netOk HM8.out, by rw [← hm3]; exact hn⟩)
              have HTL := Lib.hid (show ∀ b, (t.t b).length ≤ 80 from fun b => Nat.le_trans (HI.out.tl b) hk100)
              clear hn hm3 hm
              go_wp2_with fail
              go_loopw [22] (fun i wx => ∃ r : Nat, r ≤ 66 ∧ i = .int .i64 (r : Int) ∧ ∃ s, RdP first t.t r s ∧ Now10 w M t [boxT (w2.heap.size + 1) T 29, boxT w2.heap.size W 29] s wx) (fun i _ => 66 - (intOf i).toNat)
              case atStart => exact ⟨0, by omega, rfl, HN.out⟩
              case round =>
                obtain ⟨r, hr, rfl, s, hrd, hn⟩ := hrel
                have HRD := Lib.hid hrd
                have HN1 := Lib.hid hn
                clear hrd hn
                by_cases hrl : r < 66
                · have dr : decide ((r : Int) < 66) = true := by simp; omega
                  have HG := Lib.hid (HRD.out.g_le 80 HTL.out)
                  go_wp2_with fail
                  go_loopw [23] (fun i wx => ∃ m : Nat, m ≤ 2 ∧ i = .int .i64 (m : Int) ∧ Now10 w M t [boxT (w2.heap.size + 1) T 29, boxT w2.heap.size W 29] (s.halfTo m) wx) (fun i _ => 2 - (intOf i).toNat)
                  case atStart => exact ⟨0, by omega, rfl, HN1.out⟩
                  case round =>
                    obtain ⟨m, hm, rfl, hn⟩ := hrel
                    by_cases hm2 : m < 2
                    · have dm2 : decide ((m : Int) < 2) = true := by simp; omega
                      obtain ⟨me, hme⟩ : ∃ me : Bool, me.toNat = m := ⟨decide (m = 1), by have : m = 0 ∨ m = 1 := by omega
                                                                                          rcases this with rfl | rfl <;> rfl⟩
                      obtain ⟨m', q, e1, e2, e3, e4, _, hq2, hmq⟩ := no_nat me
                      obtain rfl : m' = m := e1.symm.trans hme
                      have HST := Lib.hid (show s.halfTo (m' + 1) = (s.halfTo m').half me from by rw [← hme]; exact s.halfTo_step me)
                      have HE3 := Lib.hid (And.intro e3 e4)
                      have hw1 : IntKind.i64.wrap (1 - (m' : Int)) = (q : Int) := by rw [hmq]; exact IntWalk.i64_in _ (by omega)
                      have HNM := Lib.hid hn
                      have HSH := Lib.hid (PS.short_halfTo s HRD.out.short m')
                      have HGM := Lib.hid (s.halfTo_g 80 HG.out m')
                      clear hn hme e1 e2 e3 e4 hm
                      generalize s.halfTo m' = sm at *
                      go_wp2_with fail
                      go_loopw [24] (fun i wx => ∃ k : Nat, k ≤ 100 ∧ i = .int .i64 (k : Int) ∧ Now10 w M t [boxT (w2.heap.size + 1) T 29, boxT w2.heap.size W 29] (sm.ticksN me k) wx) (fun i _ => 100 - (intOf i).toNat)
                      case atStart =>
                        refine ⟨0, by omega, rfl, ?_⟩
                        have e : sm.ticksN me 0 = sm := by unfold PS.ticksN; rw [show (sm.e me).ticks 0 = sm.e me from rfl, up_id]
                        rw [e]; exact HNM.out
                      case round =>
                        obtain ⟨k2, hk2, rfl, hn2⟩ := hrel
                        by_cases hkl : k2 < 100
                        · have dk : decide ((k2 : Int) < 100) = true := by simp; omega
                          have hc := hn2.act (fun F j e => tick_yes j e.le me)
                          rw [HE3.out.1] at hc
                          have HC := Lib.hid hc
                          clear hc hn2
                          go_wp2_with fail
                          refine (HC.out).mono ?_
                          rintro e w7 ⟨rfl, h7⟩
                          have H7 := Lib.hid (show Now10 w M t [boxT (w2.heap.size + 1) T 29, boxT w2.heap.size W 29] (sm.ticksN me (k2 + 1)) w7 from by rw [PS.ticksN_succ]; exact h7)
                          clear h7
                          go_wp2_with fail
                          go_roundw
                          case rel => exact ⟨k2 + 1, hkl, by go_num, H7.out⟩
                          case measure => simp [intOf]; omega
                        · have hk3 : k2 = 100 := by omega
                          have dk : decide ((k2 : Int) < 100) = false := by simp; omega
                          rw [hk3] at hn2
                          have HSH2 := Lib.hid (show Short ((sm.ticksN me 100).go me).n from PS.short_go (s := sm.ticksN me 100) HSH.out)
                          have HG2 := Lib.hid (show ∀ b, (((sm.ticksN me 100).go me).g b).length ≤ 96 from by rw [PS.ticks_go_g]; exact HGM.out)
                          have HHF := Lib.hid (show sm.half me = ((sm.ticksN me 100).go me).comeN (!me) 8 from rfl)
                          have hc := hn2.act (fun F j e => go_yes j e me)
                          rw [HE3.out.1] at hc
                          generalize (sm.ticksN me 100).go me = sg at *
                          have HC := Lib.hid hc
                          clear hc hn2 hk3 hk2
                          go_wp2_with fail
                          refine (HC.out).mono ?_
                          generalize ((sm.ticksN me 100).gone me).2 = cnt
                          rintro e w7 ⟨rfl, h7⟩
                          have H7 := Lib.hid h7
                          clear h7
                          go_wp2_with fail
                          go_loopw [25] (fun i wx => ∃ k : Nat, k ≤ 8 ∧ i = .int .i64 (k : Int) ∧ Now10 w M t [boxT (w2.heap.size + 1) T 29, boxT w2.heap.size W 29] (sg.comeN (!me) k) wx) (fun i _ => 8 - (intOf i).toNat)
                          case atStart => exact ⟨0, by omega, rfl, H7.out⟩
                          case round =>
                            obtain ⟨k3, hk3, rfl, hn3⟩ := hrel
                            by_cases hkl3 : k3 < 8
                            · have dk3 : decide ((k3 : Int) < 8) = true := by simp; omega
                              have hgb := PS.comeN_g sg (!me) 96 HG2.out k3 (!me)
                              have hc := hn3.act (fun F j e => come_yes j e (PS.short_comeN sg (!me) HSH2.out k3) (!me) (by omega) 0)
                              rw [HE3.out.2] at hc
                              generalize (sg.comeN (!me) k3).comeS (!me) 0 = cs at hc
                              generalize (sg.comeN (!me) k3).comeB (!me) 0 = cb at hc
                              have HC := Lib.hid hc
                              clear hc hn3 hgb
                              go_wp2_with fail
                              refine (HC.out).mono ?_
                              rintro e w8 ⟨rfl, h8⟩
                              have H8 := Lib.hid (show Now10 w M t [boxT (w2.heap.size + 1) T 29, boxT w2.heap.size W 29] (sg.comeN (!me) (k3 + 1)) w8 from h8)
                              clear h8
                              go_wp2_with fail
                              go_roundw
                              case rel => exact ⟨k3 + 1, hkl3, by go_num, H8.out⟩
                              case measure => simp [intOf]; omega
                            · have hk4 : k3 = 8 := by omega
                              have dk3 : decide ((k3 : Int) < 8) = false := by simp; omega
                              have H9 := Lib.hid (show Now10 w M t [boxT (w2.heap.size + 1) T 29, boxT w2.heap.size W 29] (s.halfTo (m' + 1)) wr from by rw [HST.out, HHF.out, ← hk4]; exact hn3)
                              clear hn3 hk4 hk3
                              go_wp2_with fail
                              go_roundw
                              case rel => exact ⟨m' + 1, by omega, by go_num, H9.out⟩
                              case measure => simp [intOf]; omega
                    · have hm3 : m = 2 := by omega
                      have dm2 : decide ((m : Int) < 2) = false := by simp; omega
                      have HNX := Lib.hid (show ∃ s', RdP first t.t (r + 1) s' ∧ Now10 w M t [boxT (w2.heap.size + 1) T 29, boxT w2.heap.size W 29] s' wr from ⟨(s.half false).half true, HRD.out.step, by
                        have e : s.halfTo 2 = (s.half false).half true := rfl
                        rw [← e, ← hm3]; exact hn⟩)
                      clear hn hm3 hm
                      go_wp2_with fail
                      go_roundw
                      case rel => exact ⟨r + 1, hrl, by go_num, HNX.out⟩
                      case measure => simp [intOf]; omega
                · have hr66 : r = 66 := by omega
                  have dr : decide ((r : Int) < 66) = false := by simp; omega
                  have hrd := HRD.out
                  rw [hr66] at hrd
                  obtain ⟨q1, q2, q3, q4⟩ := hrd.law
                  have HQ := Lib.hid (And.intro q1 (And.intro q2 (And.intro q3 q4)))
                  have HT1 := Lib.hid (show T[1]? = some (sl (M.t true) (t.t true).length) ∧ T[0]? = some (sl (M.t false) (t.t false).length) from by rw [← HWT.out.2]; exact ⟨rfl, rfl⟩)
                  obtain ⟨FN, hnn, hbn⟩ := HN1.out
                  have HNN := Lib.hid hnn
                  have HBN := Lib.hid hbn
                  clear hr66 hrd q1 q2 q3 q4 hnn hbn hr
                  go_wp2_with fail
                  refine' wp_flow [only 0 _, (fun us v => ∃ A1 c1 G1, us 1 = .slice A1 (t.t true).length c1 ∧ Vec v G1 1 A1 (t.t true).length c1 ((t.t true).map .string)), only 2 (.pointer (some ⟨w2.heap.size + 1, 1, none⟩)), only 3 (.slice (M.t true).A (t.t true).length (M.t true).c), only 4 (.bool true), only 5 (.bool true), only 6 _, (fun us v => ∃ A1 c1 G1, us 7 = .slice A1 (t.t false).length c1 ∧ Vec v G1 1 A1 (t.t false).length c1 ((t.t false).map .string)), only 8 (.pointer (some ⟨w2.heap.size + 1, 0, none⟩)), only 9 (.slice (M.t false).A (t.t false).length (M.t false).c), only 10 (.bool true), only 11 (.bool true), only 12 (.bool true), only 13 _, only 14 (.int .i64 0), only 15 (.bool true), only 16 (.bool true), only 17 (.bool true), only 18 _, only 19 (.int .i64 0), only 20 (.bool true), only 21 (.bool true), only 22 (.bool true)] (fun v => St10 w.heap.size { M with F := FN } (t.pipe s) [boxT (w2.heap.size + 1) T 29, boxT w2.heap.size W 29] v ∧ Below w.heap.size w v) [[], [0], [], [2], [1, 3], [4], [5], [5, 6], [5], [5, 8], [5, 7, 9], [5, 10], [11], [12], [12, 13], [12, 14], [12, 15], [16], [17], [17, 18], [17, 19], [17, 20], [21]] [[], [], [], [], [1], [], [], [], [], [], [7], [], [], [], [], [], [], [], [], [], [], [], []] [[], [], [], [], [], [], [], [], [], [], [], [], [], [], [], [], [], [], [], [], [], [], []] [[], [], [1], [1], [], [], [], [], [7], [7], [], [], [], [], [], [], [], [], [], [], [], [], []] [1, 7] [0, 1, 0, 4, 15, 31, 63, 127, 63, 319, 1023, 2047, 4095, 8191, 16383, 32767, 65535, 131071, 262143, 524287, 1048575, 2097151, 4194303] _ (fun us => ?hfr) (by kernel_rfl) (by kernel_rfl) (by kernel_rfl) ⟨only_still _, trivial, only_still _, only_still _, only_still _, only_still _, only_still _, trivial, only_still _, only_still _, only_still _, only_still _, only_still _, only_still _, only_still _, only_still _, only_still _, only_still _, only_still _, only_still _, only_still _, only_still _, only_still _, trivial⟩ (⟨HNN.out.after (below_drewN (Below.refl _ _) 1), below_drewN HBN.out 1⟩) (by simp) (trivial) ?hst ?hla
                  case hfr => (simp only [List.cons_append, List.nil_append, putAll, Act.put, List.setIfInBounds_toArray, List.set_cons_zero, List.set_cons_succ, Nat.reduceAdd]; rfl)
                  case hst =>
                    refine ⟨?_, ?_, ?_, ?_, ?_, ?_, ?_, ?_, ?_, ?_, ?_, ?_, ?_, ?_, ?_, ?_, ?_, ?_, ?_, ?_, ?_, ?_, ?_, trivial⟩
                    · intro us v hR hn ho K hK
                      clear ho
                      skip
                      rw [if_pos (by rfl)]
                      go_simp
                      refine hK _ _ _ (by simp only [Act.put, List.setIfInBounds_toArray, List.set_cons_zero, List.set_cons_succ, Nat.reduceAdd] <;> rfl) ?_ hR trivial
                      refine only_mk (v := v) ?_
                      with_reducible rfl
                    · intro us v hR hn ho K hK
                      obtain ⟨n0, -⟩ := hn
                      have n0 : us 0 = _ := n0
                      clear ho
                      skip
                      have hgt := hR.1.got false (by rw [show (t.pipe s).s.g false = t.t true from HQ.out.2.1]; have := HTL.out true; omega)
                      rw [show (t.pipe s).s.g false = t.t true from HQ.out.2.1] at hgt
                      have HGT := Lib.hid hgt
                      clear hgt
                      rw [if_pos (by rfl)]
                      go_simp
                      refine (HGT.out).mono ?_
                      rintro e v' ⟨A1, c1, G1, rfl, hv1, hs1, hb1⟩
                      dsimp only
                      exact hK _ _ _ (by simp only [Act.put, List.setIfInBounds_toArray, List.set_cons_zero, List.set_cons_succ, Nat.reduceAdd, n0] <;> rfl) ⟨A1, c1, G1, rfl, hv1⟩ ⟨hs1, hR.2.trans hb1⟩ trivial
                    · intro us v hR hn ho K hK
                      clear ho
                      skip
                      rw [if_pos (by rfl)]
                      go_simp
                      refine hK _ _ _ (by simp only [Act.put, List.setIfInBounds_toArray, List.set_cons_zero, List.set_cons_succ, Nat.reduceAdd] <;> rfl) ?_ hR ⟨fun h => h, trivial⟩
                      refine only_mk (v := v) ?_
                      with_reducible rfl
                    · intro us v hR hn ho K hK
                      obtain ⟨n2, -⟩ := hn
                      have n2 : us 2 = _ := n2
                      clear ho
                      skip
                      have y0 := (cell_of_block (hR.1.x 0 rfl) 1).trans HT1.out.1
                      unfold sl at y0
                      rw [if_pos (by rfl)]
                      go_simp
                      refine hK _ _ _ (by simp only [Act.put, List.setIfInBounds_toArray, List.set_cons_zero, List.set_cons_succ, Nat.reduceAdd, n2] <;> rfl) ?_ hR ⟨fun h => h, trivial⟩
                      refine only_mk (v := v) ?_
                      with_reducible rfl
                    · intro us v hR hn ho K hK
                      obtain ⟨n1, n3, -⟩ := hn
                      have n3 : us 3 = _ := n3
                      clear ho
                      skip
                      obtain ⟨A1, c1, G1, n1, hv1⟩ := n1
                      have htx := Link.texts_is hv1 (hR.1.tv true) (by have := HTL.out true; omega)
                      have HTX := Lib.hid htx
                      clear htx
                      rw [if_pos (by rfl)]
                      go_simp
                      refine (HTX.out).mono ?_
                      rintro e v' ⟨rfl, nn, rfl⟩
                      dsimp only
                      exact hK _ _ _ (by simp only [Act.put, List.setIfInBounds_toArray, List.set_cons_zero, List.set_cons_succ, Nat.reduceAdd, n3, n1] <;> rfl) rfl ⟨hR.1.after (below_drewN (Below.refl _ _) nn), below_drewN hR.2 nn⟩ trivial
                    · intro us v hR hn ho K hK
                      obtain ⟨n4, -⟩ := hn
                      have n4 : us 4 = _ := n4
                      clear ho
                      skip
                      rw [if_pos (by rfl)]
                      go_simp
                      refine hK _ _ _ (by simp only [Act.put, List.setIfInBounds_toArray, List.set_cons_zero, List.set_cons_succ, Nat.reduceAdd, n4] <;> rfl) ?_ hR trivial
                      refine only_mk (v := v) ?_
                      with_reducible rfl
                    · intro us v hR hn ho K hK
                      obtain ⟨n5, -⟩ := hn
                      have n5 : us 5 = _ := n5
                      clear ho
                      skip
                      rw [if_pos (by simp [Region.wanted, yielded, n5])]
                      go_simp
                      refine hK _ _ _ (by simp only [Act.put, List.setIfInBounds_toArray, List.set_cons_zero, List.set_cons_succ, Nat.reduceAdd, n5] <;> rfl) ?_ hR trivial
                      refine only_mk (v := v) ?_
                      with_reducible rfl
                    · intro us v hR hn ho K hK
                      obtain ⟨n5, n6, -⟩ := hn
                      have n5 : us 5 = _ := n5
                      have n6 : us 6 = _ := n6
                      clear ho
                      skip
                      have hgt := hR.1.got true (by rw [show (t.pipe s).s.g true = t.t false from HQ.out.1]; have := HTL.out false; omega)
                      rw [show (t.pipe s).s.g true = t.t false from HQ.out.1] at hgt
                      have HGT := Lib.hid hgt
                      clear hgt
                      rw [if_pos (by simp [Region.wanted, yielded, n5])]
                      go_simp
                      refine (HGT.out).mono ?_
                      rintro e v' ⟨A1, c1, G1, rfl, hv1, hs1, hb1⟩
                      dsimp only
                      exact hK _ _ _ (by simp only [Act.put, List.setIfInBounds_toArray, List.set_cons_zero, List.set_cons_succ, Nat.reduceAdd, n5, n6] <;> rfl) ⟨A1, c1, G1, rfl, hv1⟩ ⟨hs1, hR.2.trans hb1⟩ trivial
                    · intro us v hR hn ho K hK
                      obtain ⟨n5, -⟩ := hn
                      have n5 : us 5 = _ := n5
                      clear ho
                      skip
                      rw [if_pos (by simp [Region.wanted, yielded, n5])]
                      go_simp
                      refine hK _ _ _ (by simp only [Act.put, List.setIfInBounds_toArray, List.set_cons_zero, List.set_cons_succ, Nat.reduceAdd, n5] <;> rfl) ?_ hR ⟨fun h => h, trivial⟩
                      refine only_mk (v := v) ?_
                      with_reducible rfl
                    · intro us v hR hn ho K hK
                      obtain ⟨n5, n8, -⟩ := hn
                      have n5 : us 5 = _ := n5
                      have n8 : us 8 = _ := n8
                      clear ho
                      skip
                      have y0 := (cell_of_block (hR.1.x 0 rfl) 0).trans HT1.out.2
                      unfold sl at y0
                      rw [if_pos (by simp [Region.wanted, yielded, n5, n8])]
                      go_simp
                      refine hK _ _ _ (by simp only [Act.put, List.setIfInBounds_toArray, List.set_cons_zero, List.set_cons_succ, Nat.reduceAdd, n5, n8] <;> rfl) ?_ hR ⟨fun h => h, trivial⟩
                      refine only_mk (v := v) ?_
                      with_reducible rfl
                    · intro us v hR hn ho K hK
                      obtain ⟨n5, n7, n9, -⟩ := hn
                      have n5 : us 5 = _ := n5
                      have n9 : us 9 = _ := n9
                      clear ho
                      skip
                      obtain ⟨A1, c1, G1, n7, hv1⟩ := n7
                      have htx := Link.texts_is hv1 (hR.1.tv false) (by have := HTL.out false; omega)
                      have HTX := Lib.hid htx
                      clear htx
                      rw [if_pos (by simp [Region.wanted, yielded, n5])]
                      go_simp
                      refine (HTX.out).mono ?_
                      rintro e v' ⟨rfl, nn, rfl⟩
                      dsimp only
                      exact hK _ _ _ (by simp only [Act.put, List.setIfInBounds_toArray, List.set_cons_zero, List.set_cons_succ, Nat.reduceAdd, n5, n9, n7] <;> rfl) rfl ⟨hR.1.after (below_drewN (Below.refl _ _) nn), below_drewN hR.2 nn⟩ trivial
                    · intro us v hR hn ho K hK
                      obtain ⟨n5, n10, -⟩ := hn
                      have n5 : us 5 = _ := n5
                      have n10 : us 10 = _ := n10
                      clear ho
                      skip
                      rw [if_pos (by rfl)]
                      go_simp
                      refine hK _ _ _ (by simp only [Act.put, List.setIfInBounds_toArray, List.set_cons_zero, List.set_cons_succ, Nat.reduceAdd, n5, n10] <;> rfl) ?_ hR trivial
                      refine only_mk (v := v) ?_
                      with_reducible rfl
                    · intro us v hR hn ho K hK
                      obtain ⟨n11, -⟩ := hn
                      have n11 : us 11 = _ := n11
                      clear ho
                      skip
                      rw [if_pos (by rfl)]
                      go_simp
                      refine hK _ _ _ (by simp only [Act.put, List.setIfInBounds_toArray, List.set_cons_zero, List.set_cons_succ, Nat.reduceAdd, n11] <;> rfl) ?_ hR trivial
                      refine only_mk (v := v) ?_
                      with_reducible rfl
                    · intro us v hR hn ho K hK
                      obtain ⟨n12, -⟩ := hn
                      have n12 : us 12 = _ := n12
                      clear ho
                      skip
                      rw [if_pos (by simp [Region.wanted, yielded, n12])]
                      go_simp
                      refine hK _ _ _ (by simp only [Act.put, List.setIfInBounds_toArray, List.set_cons_zero, List.set_cons_succ, Nat.reduceAdd, n12] <;> rfl) ?_ hR trivial
                      refine only_mk (v := v) ?_
                      with_reducible rfl
                    · intro us v hR hn ho K hK
                      obtain ⟨n12, n13, -⟩ := hn
                      have n12 : us 12 = _ := n12
                      have n13 : us 13 = _ := n13
                      clear ho
                      skip
                      have hwt := waiting_yes hR.1.pipe false
                      rw [show ((t.pipe s).s.e false).bodies = [] from HQ.out.2.2.1] at hwt
                      have HWTG := Lib.hid hwt
                      clear hwt
                      rw [if_pos (by simp [Region.wanted, yielded, n12])]
                      go_simp
                      refine (HWTG.out).mono ?_
                      rintro e v' ⟨rfl, rfl⟩
                      dsimp only
                      exact hK _ _ _ (by simp only [Act.put, List.setIfInBounds_toArray, List.set_cons_zero, List.set_cons_succ, Nat.reduceAdd, n12, n13] <;> rfl) rfl hR trivial
                    · intro us v hR hn ho K hK
                      obtain ⟨n12, n14, -⟩ := hn
                      have n12 : us 12 = _ := n12
                      have n14 : us 14 = _ := n14
                      clear ho
                      skip
                      rw [if_pos (by simp [Region.wanted, yielded, n12, n14])]
                      go_simp
                      refine hK _ _ _ (by simp only [Act.put, List.setIfInBounds_toArray, List.set_cons_zero, List.set_cons_succ, Nat.reduceAdd, n12, n14] <;> rfl) ?_ hR trivial
                      refine only_mk (v := v) ?_
                      with_reducible rfl
                    · intro us v hR hn ho K hK
                      obtain ⟨n12, n15, -⟩ := hn
                      have n12 : us 12 = _ := n12
                      have n15 : us 15 = _ := n15
                      clear ho
                      skip
                      rw [if_pos (by rfl)]
                      go_simp
                      refine hK _ _ _ (by simp only [Act.put, List.setIfInBounds_toArray, List.set_cons_zero, List.set_cons_succ, Nat.reduceAdd, n12, n15] <;> rfl) ?_ hR trivial
                      refine only_mk (v := v) ?_
                      with_reducible rfl
                    · intro us v hR hn ho K hK
                      obtain ⟨n16, -⟩ := hn
                      have n16 : us 16 = _ := n16
                      clear ho
                      skip
                      rw [if_pos (by rfl)]
                      go_simp
                      refine hK _ _ _ (by simp only [Act.put, List.setIfInBounds_toArray, List.set_cons_zero, List.set_cons_succ, Nat.reduceAdd, n16] <;> rfl) ?_ hR trivial
                      refine only_mk (v := v) ?_
                      with_reducible rfl
                    · intro us v hR hn ho K hK
                      obtain ⟨n17, -⟩ := hn
                      have n17 : us 17 = _ := n17
                      clear ho
                      skip
                      rw [if_pos (by simp [Region.wanted, yielded, n17])]
                      go_simp
                      refine hK _ _ _ (by simp only [Act.put, List.setIfInBounds_toArray, List.set_cons_zero, List.set_cons_succ, Nat.reduceAdd, n17] <;> rfl) ?_ hR trivial
                      refine only_mk (v := v) ?_
                      with_reducible rfl
                    · intro us v hR hn ho K hK
                      obtain ⟨n17, n18, -⟩ := hn
                      have n17 : us 17 = _ := n17
                      have n18 : us 18 = _ := n18
                      clear ho
                      skip
                      have hwt := waiting_yes hR.1.pipe true
                      rw [show ((t.pipe s).s.e true).bodies = [] from HQ.out.2.2.2] at hwt
                      have HWTG := Lib.hid hwt
                      clear hwt
                      rw [if_pos (by simp [Region.wanted, yielded, n17])]
                      go_simp
                      refine (HWTG.out).mono ?_
                      rintro e v' ⟨rfl, rfl⟩
                      dsimp only
                      exact hK _ _ _ (by simp only [Act.put, List.setIfInBounds_toArray, List.set_cons_zero, List.set_cons_succ, Nat.reduceAdd, n17, n18] <;> rfl) rfl hR trivial
                    · intro us v hR hn ho K hK
                      obtain ⟨n17, n19, -⟩ := hn
                      have n17 : us 17 = _ := n17
                      have n19 : us 19 = _ := n19
                      clear ho
                      skip
                      rw [if_pos (by simp [Region.wanted, yielded, n17, n19])]
                      go_simp
                      refine hK _ _ _ (by simp only [Act.put, List.setIfInBounds_toArray, List.set_cons_zero, List.set_cons_succ, Nat.reduceAdd, n17, n19] <;> rfl) ?_ hR trivial
                      refine only_mk (v := v) ?_
                      with_reducible rfl
                    · intro us v hR hn ho K hK
                      obtain ⟨n17, n20, -⟩ := hn
                      have n17 : us 17 = _ := n17
                      have n20 : us 20 = _ := n20
                      clear ho
                      skip
                      rw [if_pos (by rfl)]
                      go_simp
                      refine hK _ _ _ (by simp only [Act.put, List.setIfInBounds_toArray, List.set_cons_zero, List.set_cons_succ, Nat.reduceAdd, n17, n20] <;> rfl) ?_ hR trivial
                      refine only_mk (v := v) ?_
                      with_reducible rfl
                    · intro us v hR hn ho K hK
                      obtain ⟨n21, -⟩ := hn
                      have n21 : us 21 = _ := n21
                      clear ho
                      skip
                      rw [if_pos (by rfl)]
                      go_simp
                      refine hK _ _ _ (by simp only [Act.put, List.setIfInBounds_toArray, List.set_cons_zero, List.set_cons_succ, Nat.reduceAdd, n21] <;> rfl) ?_ hR trivial
                      refine only_mk (v := v) ?_
                      with_reducible rfl
                  case hla =>
                    intro us v hR hl
                    obtain ⟨n0, n2, n3, n4, n5, n6, n8, n9, n10, n11, n12, n13, n14, n15, n16, n17, n18, n19, n20, n21, n22, -⟩ := need_last hl [0, 2, 3, 4, 5, 6, 8, 9, 10, 11, 12, 13, 14, 15, 16, 17, 18, 19, 20, 21, 22] (by kernel_rfl)
                    have n0 : us 0 = _ := n0
                    have n2 : us 2 = _ := n2
                    have n3 : us 3 = _ := n3
                    have n4 : us 4 = _ := n4
                    have n5 : us 5 = _ := n5
                    have n6 : us 6 = _ := n6
                    have n8 : us 8 = _ := n8
                    have n9 : us 9 = _ := n9
                    have n10 : us 10 = _ := n10
                    have n11 : us 11 = _ := n11
                    have n12 : us 12 = _ := n12
                    have n13 : us 13 = _ := n13
                    have n14 : us 14 = _ := n14
                    have n15 : us 15 = _ := n15
                    have n16 : us 16 = _ := n16
                    have n17 : us 17 = _ := n17
                    have n18 : us 18 = _ := n18
                    have n19 : us 19 = _ := n19
                    have n20 : us 20 = _ := n20
                    have n21 : us 21 = _ := n21
                    have n22 : us 22 = _ := n22
                    skip
                    simp only [n0, n2, n3, n4, n5, n6, n8, n9, n10, n11, n12, n13, n14, n15, n16, n17, n18, n19, n20, n21, n22]
                    clear hl n0 n2 n3 n4 n5 n6 n8 n9 n10 n11 n12 n13 n14 n15 n16 n17 n18 n19 n20 n21 n22
                    have HBF := Lib.hid hR.2
                    clear hR
                    go_wp2_with fail
                    go_ret
                    exact ⟨rfl, HBF.out⟩
    · have hcs : decide (epoch < 0) = true ∨ (decide (epoch < 0) = false ∧ decide (65535 < epoch) = true) ∨ (decide (epoch < 0) = false ∧ decide (65535 < epoch) = false ∧ decide (room < 8) = true) := by
        simp; omega
      clear hcond
      rcases hcs with d0 | ⟨d0, d1⟩ | ⟨d0, d1, d2⟩
      all_goals
        go_wp2_with fail
        refine (awake_any _ H1.out.env).mono ?_
        rintro e w3 ⟨rfl, hb⟩
        have H3 := Lib.hid (H1.out.after hb)
        clear hb
        go_wp2_with fail
        go_ret
        exact ⟨rfl, H3.out.below⟩
end Go.Proofs.YtihhflajkohibaaDoor.Pipe
