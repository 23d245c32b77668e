/- Layer 10: the walk of PipeOnce. Conditions: the slice of acts lies in memory that came in; the table of layer 5 and the variable of package errors are laid. -/
import Derived.Test.YtihhflajkohibaaDoorPipePlay3
import Derived.BigQuiet
namespace Go.Proofs.YtihhflajkohibaaDoor.Pipe
set_option linter.unusedSimpArgs false
set_option linter.unusedVariables false
set_option maxRecDepth 100000
open Go.RowKit
open Go.Proofs.YtihhflajkohibaaDoor
open Go.Proofs.YtihhflajkohibaaDoor.Link (LE Fr EndIs)
open Go.Proofs.YtihhflajkohibaaDoor.Net (NS NetIs)
set_option maxRecDepth 100000 in
set_option maxHeartbeats 16000000 in
theorem once_walk (epoch first window queue wait room : Int) (hu : Link.u first = first) (A : Option Addr) (c : Nat) (l : List Act10) (w : World) (hA : Sl w 0 w.heap.size 5 A l.length (l.flatMap Act10.cells)) (hy : l.length ≤ maxLen) (ht : TabAt w) (hg : Frame.ErrAt w) :
    Calls Tryd.prog 3 #[.int .i64 epoch, .int .u64 first, .int .i64 window, .int .i64 queue, .int .i64 wait, .int .i64 room, .slice A l.length c] w fun e w' => e = .returned (.bool true) ∧ Below w.heap.size w w' := by
  have hy' := hy
  unfold maxLen at hy
  have HU := Lib.hid hu
  have HV := Lib.hid (Env.of ht hg)
  clear hu ht hg
  go_enter Tryd.func3, Tryd.ntmps3
  go_wp2_with fail
  refine (stand_new epoch first window queue wait room HU.out w _ (Below.refl _ _) HV.out).mono ?_
  rintro e w1 ⟨p, rfl, h1⟩
  have H0 := Lib.hid h1
  clear h1
  go_wp2_with fail
  refine (awake_any _ H0.out.env).mono ?_
  rintro e w2 ⟨rfl, hb⟩
  have H1 := Lib.hid (H0.out.after hb)
  clear hb
  go_wp2_with fail
  refine (few_any (hA.below H1.out.below (Nat.le_refl _)) hy').mono ?_
  rintro e w3 ⟨⟨b0, rfl, hfew⟩, rfl⟩
  have HFEW := Lib.hid hfew
  clear hfew
  cases b0
  · go_wp2_with fail
    refine (awake_any _ H1.out.env).mono ?_
    rintro e w3 ⟨rfl, hb⟩
    have H3 := Lib.hid (H1.out.after hb)
    clear hb
    go_wp2_with fail
    go_ret
    exact ⟨rfl, H3.out.below⟩
  · obtain ⟨h80, _⟩ := HFEW.out rfl
    obtain ⟨F, hst⟩ := St10.start H1.out
    have hst1 := hst.more (w' := w2.alloc (.cells zero2 29)) (o := boxT w2.heap.size zero2 29) ((Below.refl _ _).alloc (Nat.le_refl _) _) (heap_alloc_new w2 _) (boxT_local _ _ _) (fun j hj => by simp [boxT] at hj; omega)
    have hst2 := hst1.more (w' := (w2.alloc (.cells zero2 29)).alloc (.cells zero2 29)) (o := boxT (w2.heap.size + 1) zero2 29) ((Below.refl _ _).alloc (Nat.le_refl _) _) (heap_new_at _ _ _ (by simp)) (boxT_local _ _ _) (fun j hj => by simp [boxT] at hj; simp; omega)
    have hbl : Below w.heap.size w ((w2.alloc (.cells zero2 29)).alloc (.cells zero2 29)) := H1.out.below.trans ((((Below.refl _ _).alloc (Nat.le_refl _) _).alloc (by simp) _).mono H1.out.env.le)
    have HOK := Lib.hid (show OnceK first w p w2.heap.size (w2.heap.size + 1) 0 ((w2.alloc (.cells zero2 29)).alloc (.cells zero2 29)) from ⟨_, _, rfl, hst2, hbl, Inv.start epoch first window queue wait room HU.out⟩)
    unfold zero2 at HOK
    have hi2 := info_parts Link.str_info
    clear hst hst1 hst2 hbl
    go_wp2_with fail
    go_loopw [18] (fun i wr => ∃ k : Nat, k ≤ l.length ∧ i = .int .i64 (k : Int) ∧ OnceK first w p w2.heap.size (w2.heap.size + 1) k wr) (fun i _ => l.length - (intOf i).toNat)
    case atStart => exact ⟨0, Nat.zero_le _, rfl, HOK.out⟩
    case round =>
      obtain ⟨k, hk, rfl, M, t, hMp, hs, hb, hi⟩ := hrel
      subst hMp
      obtain ⟨W, hW⟩ : ∃ W, M.wc t = W := ⟨_, rfl⟩
      obtain ⟨T, hT⟩ : ∃ T, M.tc t = T := ⟨_, rfl⟩
      rw [hW, hT] at hs
      have HWT := Lib.hid (And.intro hW hT)
      have HS := Lib.hid hs
      have HB := Lib.hid hb
      have HI := Lib.hid hi
      clear hs hi hW hT
      by_cases hlt : k < l.length
      · obtain ⟨g, o, rfl, _, hgl, hat⟩ := acts_at hA hlt
        have i0' : (0 : Int) ≤ (k : Int) := by omega
        have i1 : (k : Int) < (l.length : Int) := by omega
        generalize l[k] = a at *
        have HAT := Lib.hid hat
        have hk100 : k ≤ 100 := by omega
        clear hat hb hk
        go_wp2_with fail
        refine' wp_flow [only 0 _, only 1 _, only 2 _, only 3 _, only 4 (.agg #[.int .i64 a.K, .int .i64 a.Side, .int .i64 a.N, .int .i64 a.X, .string a.S]), only 5 (.agg W), only 6 (.agg T), (fun us v => ∃ (M' : M10) (t' : T10) (ok : Bool), M'.p = M.p ∧ us 7 = .tuple #[.agg (M'.wc t'), .agg (M'.tc t'), .bool ok] ∧ St10 w.heap.size M' t' [boxT (w2.heap.size + 1) T 29, boxT w2.heap.size W 29] v ∧ Inv first (k + 1) t'), (fun us _ => us 8 = us 7 ∧ ∃ a b c, us 7 = .tuple #[a, b, c]), (fun us _ => ∀ a b c, us 7 = .tuple #[a, b, c] → us 9 = a), (fun us _ => ∀ a b c, us 7 = .tuple #[a, b, c] → us 10 = b), (fun us _ => ∀ a b c, us 7 = .tuple #[a, b, c] → us 11 = c), (fun us v => ∃ (M' : M10) (t' : T10) (ok : Bool), M'.p = M.p ∧ us 7 = .tuple #[.agg (M'.wc t'), .agg (M'.tc t'), .bool ok] ∧ St10 w.heap.size M' t' [boxT (w2.heap.size + 1) T 29, boxT w2.heap.size (M'.wc t') 29] v ∧ Inv first (k + 1) t'), (fun us v => ∃ (M' : M10) (t' : T10) (ok : Bool), M'.p = M.p ∧ us 7 = .tuple #[.agg (M'.wc t'), .agg (M'.tc t'), .bool ok] ∧ St10 w.heap.size M' t' [boxT (w2.heap.size + 1) (M'.tc t') 29, boxT w2.heap.size (M'.wc t') 29] v ∧ Inv first (k + 1) t'), (fun us _ => us 14 = us 11), (fun _ v => St10 w.heap.size M t [boxT (w2.heap.size + 1) T 29, boxT w2.heap.size W 29] v)] (fun v => Below w.heap.size w v) [[], [], [], [1, 2], [3], [15], [15], [0, 4, 5, 6, 15], [7], [8], [8], [8], [7, 9], [10, 12], [11]] [[], [], [], [], [], [], [], [15], [], [], [], [], [7], [12], []] [[], [], [], [], [], [], [], [], [], [], [], [], [], [], []] [[15], [15], [15], [15], [15], [15], [15], [], [7], [7, 8, 10, 11], [7, 8, 9, 11, 12], [7, 8, 9, 10, 12, 13], [8, 9, 10, 11], [8, 9, 10, 11], [8, 9, 10, 11, 13]] [7, 8, 9, 10, 11, 12, 13, 14, 15] [0, 0, 0, 6, 14, 0, 0, 127, 255, 511, 511, 511, 1023, 6143, 16383] _ (fun us => ?hfr) (by kernel_rfl) (by kernel_rfl) (by kernel_rfl) ⟨only_still _, only_still _, only_still _, only_still _, only_still _, only_still _, only_still _, trivial, trivial, trivial, trivial, trivial, trivial, trivial, trivial, trivial, trivial⟩ (below_drewN HB.out 1) (by simp) (HS.out.after (below_drewN (Below.refl _ _) 1)) ?hst ?hla
        case hfr => (simp only [List.cons_append, List.nil_append, putAll, Act.put, List.setIfInBounds_toArray, List.set_cons_zero, List.set_cons_succ, Nat.reduceAdd]; rfl)
        case hst =>
          refine ⟨?_, ?_, ?_, ?_, ?_, ?_, ?_, ?_, ?_, ?_, ?_, ?_, ?_, ?_, ?_, trivial⟩
          · intro us v hR hn ho K hK
            clear ho
            obtain ⟨x0, x1, x2, x3, x4⟩ := HAT.out.of_below hR hgl
            rw [if_pos (by rfl)]
            go_simp
            refine hK _ _ _ (by simp only [Act.put, List.setIfInBounds_toArray, List.set_cons_zero, List.set_cons_succ, Nat.reduceAdd] <;> rfl) ?_ hR ⟨fun h => h, trivial⟩
            refine only_mk (v := v) ?_
            with_reducible rfl
          · intro us v hR hn ho K hK
            clear ho
            obtain ⟨x0, x1, x2, x3, x4⟩ := HAT.out.of_below hR hgl
            rw [if_pos (by rfl)]
            go_simp
            refine hK _ _ _ (by simp only [Act.put, List.setIfInBounds_toArray, List.set_cons_zero, List.set_cons_succ, Nat.reduceAdd] <;> rfl) ?_ hR ⟨fun h => h, trivial⟩
            refine only_mk (v := v) ?_
            with_reducible rfl
          · intro us v hR hn ho K hK
            clear ho
            obtain ⟨x0, x1, x2, x3, x4⟩ := HAT.out.of_below hR hgl
            rw [if_pos (by rfl)]
            go_simp
            refine hK _ _ _ (by simp only [Act.put, List.setIfInBounds_toArray, List.set_cons_zero, List.set_cons_succ, Nat.reduceAdd] <;> rfl) ?_ hR ⟨fun h => h, trivial⟩
            refine only_mk (v := v) ?_
            with_reducible rfl
          · intro us v hR hn ho K hK
            obtain ⟨n1, n2, -⟩ := hn
            have n1 : us 1 = _ := n1
            have n2 : us 2 = _ := n2
            clear ho
            obtain ⟨x0, x1, x2, x3, x4⟩ := HAT.out.of_below hR hgl
            rw [if_pos (by rfl)]
            go_simp
            refine hK _ _ _ (by simp only [Act.put, List.setIfInBounds_toArray, List.set_cons_zero, List.set_cons_succ, Nat.reduceAdd, n1, n2] <;> rfl) ?_ hR ⟨fun h => h, trivial⟩
            refine only_mk (v := v) ?_
            with_reducible rfl
          · intro us v hR hn ho K hK
            obtain ⟨n3, -⟩ := hn
            have n3 : us 3 = _ := n3
            clear ho
            obtain ⟨x0, x1, x2, x3, x4⟩ := HAT.out.of_below hR hgl
            rw [if_pos (by rfl)]
            go_simp
            refine hK _ _ _ (by simp only [Act.put, List.setIfInBounds_toArray, List.set_cons_zero, List.set_cons_succ, Nat.reduceAdd, n3] <;> rfl) ?_ hR ⟨fun h => h, trivial⟩
            refine only_mk (v := v) ?_
            with_reducible rfl
          · intro us v hR hn ho K hK
            obtain ⟨ns, -⟩ := hn
            clear ho
            obtain ⟨x0, x1, x2, x3, x4⟩ := HAT.out.of_below hR hgl
            have hbx := ns.x 1 rfl
            have hcs : (Tryd.prog.info? 29).map (·.size) = some W.size := by rw [← HWT.out.1]; kernel_rfl
            rw [if_pos (by rfl)]
            refine wp_load_row 29 _ (by rfl) w2.heap.size (by rfl) 29 W (0, 0) _ hbx Tryd.underlying29 rfl hcs ?_
            refine hK _ _ _ (by simp only [Act.put, List.setIfInBounds_toArray, List.set_cons_zero, List.set_cons_succ, Nat.reduceAdd] <;> rfl) ?_ hR ⟨fun h => h, trivial⟩
            exact only_mk (v := v) rfl
          · intro us v hR hn ho K hK
            obtain ⟨ns, -⟩ := hn
            clear ho
            obtain ⟨x0, x1, x2, x3, x4⟩ := HAT.out.of_below hR hgl
            have hbx := ns.x 0 rfl
            have hcs : (Tryd.prog.info? 29).map (·.size) = some T.size := by rw [← HWT.out.2]; kernel_rfl
            rw [if_pos (by rfl)]
            refine wp_load_row 29 _ (by rfl) (w2.heap.size + 1) (by rfl) 29 T (0, 0) _ hbx Tryd.underlying29 rfl hcs ?_
            refine hK _ _ _ (by simp only [Act.put, List.setIfInBounds_toArray, List.set_cons_zero, List.set_cons_succ, Nat.reduceAdd] <;> rfl) ?_ hR ⟨fun h => h, trivial⟩
            exact only_mk (v := v) rfl
          · intro us v hR hn ho K hK
            obtain ⟨n0, n4, n5, n6, ns, -⟩ := hn
            have n0 : us 0 = _ := n0
            have n4 : us 4 = _ := n4
            have n5 : us 5 = _ := n5
            have n6 : us 6 = _ := n6
            clear ho
            obtain ⟨x0, x1, x2, x3, x4⟩ := HAT.out.of_below hR hgl
            have hpl := play_any ns HI.out hk100 a
            rw [HWT.out.1, HWT.out.2] at hpl
            simp only [Act10.cells] at hpl
            rw [if_pos (by rfl)]
            clear x0 x1 x2 x3 x4
            have HPLY := Lib.hid hpl
            clear hpl
            go_simp
            refine (HPLY.out).mono ?_
            rintro e v' ⟨M', t', ok, hp, rfl, hs', hb', hi'⟩
            dsimp only
            exact hK _ _ _ (by simp only [Act.put, List.setIfInBounds_toArray, List.set_cons_zero, List.set_cons_succ, Nat.reduceAdd, n0, n4, n5, n6] <;> rfl) ⟨M', t', ok, hp, rfl, hs', hi'⟩ (hR.trans hb') trivial
          · intro us v hR hn ho K hK
            obtain ⟨n7, -⟩ := hn
            clear ho
            obtain ⟨x0, x1, x2, x3, x4⟩ := HAT.out.of_below hR hgl
            obtain ⟨M', t', ok, hp, n7, hs', hi'⟩ := id n7
            rw [if_pos (by rfl)]
            go_simp
            exact hK _ _ _ (by simp only [Act.put, List.setIfInBounds_toArray, List.set_cons_zero, List.set_cons_succ, Nat.reduceAdd, n7] <;> rfl) ⟨n7.symm, _, _, _, n7⟩ hR ⟨fun h => h, trivial⟩
          · intro us v hR hn ho K hK
            obtain ⟨n8, -⟩ := hn
            clear ho
            obtain ⟨x0, x1, x2, x3, x4⟩ := HAT.out.of_below hR hgl
            obtain ⟨e8, a7, b7, c7, n7⟩ := n8
            have n8 : us 8 = _ := e8.trans n7
            rw [if_pos (by rfl)]
            go_simp
            exact hK _ _ _ (by simp only [Act.put, List.setIfInBounds_toArray, List.set_cons_zero, List.set_cons_succ, Nat.reduceAdd, n7, n8] <;> rfl) (fun a b c h => (tup3 (n7.symm.trans h)).1) hR ⟨fun h => h, fun h => h, fun h => h, fun h => h, trivial⟩
          · intro us v hR hn ho K hK
            obtain ⟨n8, -⟩ := hn
            clear ho
            obtain ⟨x0, x1, x2, x3, x4⟩ := HAT.out.of_below hR hgl
            obtain ⟨e8, a7, b7, c7, n7⟩ := n8
            have n8 : us 8 = _ := e8.trans n7
            rw [if_pos (by rfl)]
            go_simp
            exact hK _ _ _ (by simp only [Act.put, List.setIfInBounds_toArray, List.set_cons_zero, List.set_cons_succ, Nat.reduceAdd, n7, n8] <;> rfl) (fun a b c h => (tup3 (n7.symm.trans h)).2.1) hR ⟨fun h => h, fun h => h, fun h => h, fun h => h, fun h => h, trivial⟩
          · intro us v hR hn ho K hK
            obtain ⟨n8, -⟩ := hn
            clear ho
            obtain ⟨x0, x1, x2, x3, x4⟩ := HAT.out.of_below hR hgl
            obtain ⟨e8, a7, b7, c7, n7⟩ := n8
            have n8 : us 8 = _ := e8.trans n7
            rw [if_pos (by rfl)]
            go_simp
            exact hK _ _ _ (by simp only [Act.put, List.setIfInBounds_toArray, List.set_cons_zero, List.set_cons_succ, Nat.reduceAdd, n7, n8] <;> rfl) (fun a b c h => (tup3 (n7.symm.trans h)).2.2) hR ⟨fun h => h, fun h => h, fun h => h, fun h => h, fun h => h, fun h => h, trivial⟩
          · intro us v hR hn ho K hK
            obtain ⟨n7, n9, -⟩ := hn
            clear ho
            obtain ⟨x0, x1, x2, x3, x4⟩ := HAT.out.of_below hR hgl
            obtain ⟨M', t', ok, hp, n7, hs', hi'⟩ := n7
            have n9 : us 9 = _ := n9 _ _ _ n7
            rw [if_pos (by rfl)]
            refine wp_store_all 29 (.tmp 16) (.tmp 62) (by rfl) w2.heap.size W (M'.wc t') 29 (by rfl) n9 (hs'.x 1 rfl) (by rw [← HWT.out.1]; rfl) (by kernel_rfl) (two_one M' t').1 ?_
            intro v' hq hk'
            obtain ⟨k1, k2⟩ := hs'.boxAll 1 rfl hq hk'
            exact hK undef _ _ (by simp only [Act.put, List.setIfInBounds_toArray, List.set_cons_zero, List.set_cons_succ, Nat.reduceAdd, n9] <;> rfl) ⟨M', t', ok, hp, n7, k1, hi'⟩ (hR.trans k2) ⟨fun h => h, fun h => h, fun h => h, fun h => h, trivial⟩
          · intro us v hR hn ho K hK
            obtain ⟨n10, n12, -⟩ := hn
            clear ho
            obtain ⟨x0, x1, x2, x3, x4⟩ := HAT.out.of_below hR hgl
            obtain ⟨M', t', ok, hp, n7, hs', hi'⟩ := n12
            have n10 : us 10 = _ := n10 _ _ _ n7
            rw [if_pos (by rfl)]
            refine wp_store_all 29 (.tmp 17) (.tmp 63) (by rfl) (w2.heap.size + 1) T (M'.tc t') 29 (by rfl) n10 (hs'.x 0 rfl) (by rw [← HWT.out.2]; rfl) (by kernel_rfl) (two_one M' t').2 ?_
            intro v' hq hk'
            obtain ⟨k1, k2⟩ := hs'.boxAll 0 rfl hq hk'
            exact hK undef _ _ (by simp only [Act.put, List.setIfInBounds_toArray, List.set_cons_zero, List.set_cons_succ, Nat.reduceAdd, n10] <;> rfl) ⟨M', t', ok, hp, n7, k1, hi'⟩ (hR.trans k2) ⟨fun h => h, fun h => h, fun h => h, fun h => h, trivial⟩
          · intro us v hR hn ho K hK
            obtain ⟨n11, -⟩ := hn
            clear ho
            obtain ⟨x0, x1, x2, x3, x4⟩ := HAT.out.of_below hR hgl
            rw [if_pos (by rfl)]
            go_simp
            exact hK _ _ _ (by simp only [Act.put, List.setIfInBounds_toArray, List.set_cons_zero, List.set_cons_succ, Nat.reduceAdd] <;> rfl) rfl hR ⟨fun h => h, fun h => h, fun h => h, fun h => h, fun h => h, trivial⟩
        case hla =>
          intro us v hR hl
          obtain ⟨n0, n1, n2, n3, n4, n5, n6, n8, n9, n10, n11, n13, n14, -⟩ := need_last hl [0, 1, 2, 3, 4, 5, 6, 8, 9, 10, 11, 13, 14] (by kernel_rfl)
          have n0 : us 0 = _ := n0
          have n1 : us 1 = _ := n1
          have n2 : us 2 = _ := n2
          have n3 : us 3 = _ := n3
          have n4 : us 4 = _ := n4
          have n5 : us 5 = _ := n5
          have n6 : us 6 = _ := n6
          obtain ⟨x0, x1, x2, x3, x4⟩ := HAT.out.of_below hR hgl
          simp only [n0, n1, n2, n3, n4, n5, n6]
          clear hl n0 n1 n2 n3 n4 n5 n6
          obtain ⟨M', t', ok, hp, n7, hs', hi'⟩ := n13
          have n11 : us 11 = _ := n11 _ _ _ n7
          have n14 : us 14 = _ := n14.trans n11
          simp only [n14]
          have HS' := Lib.hid hs'
          have HB' := Lib.hid hR
          have HI' := Lib.hid hi'
          clear n7 n8 n9 n10 n11 n14 hs' hi' hR x0 x1 x2 x3 x4
          cases ok
          · go_wp2_with fail
            go_ret
            exact ⟨rfl, HB'.out⟩
          · go_wp2_with fail
            go_loopw [20] (fun s wx => ∃ m : Nat, m ≤ 2 ∧ s = .int .i64 (m : Int) ∧ St10 w.heap.size M' t' [boxT (w2.heap.size + 1) (M'.tc t') 29, boxT w2.heap.size (M'.wc t') 29] wx ∧ Below w.heap.size w wx) (fun s _ => 2 - (intOf s).toNat)
            case atStart => exact ⟨0, by omega, rfl, HS'.out, HB'.out⟩
            case round =>
              obtain ⟨m, hm, rfl, hsx, hbx⟩ := hrel
              have HSX := Lib.hid hsx
              have HBX := Lib.hid hbx
              by_cases hm2 : m < 2
              · have dm : decide ((m : Int) < 2) = true := by simp; omega
                obtain ⟨me, hme⟩ : ∃ me : Bool, me.toNat = m := ⟨decide (m = 1), by have : m = 0 ∨ m = 1 := by omega
                                                                                    rcases this with rfl | rfl <;> rfl⟩
                obtain ⟨m', r, e1, e2, e3, e4, _, hr2, hmr⟩ := no_nat me
                obtain rfl : m' = m := e1.symm.trans hme
                have m0 : (0 : Int) ≤ (m' : Int) := by omega
                have m1 : (m' : Int) < 2 := by omega
                have r0 : (0 : Int) ≤ (r : Int) := by omega
                have r1 : (r : Int) < 2 := by omega
                have hw1 : IntKind.i64.wrap (1 - (m' : Int)) = (r : Int) := by rw [hmr]; exact IntWalk.i64_in _ (by omega)
                obtain ⟨hl1, hl2⟩ := HI'.out.law me
                have hgl2 := HI'.out.gl me
                have htl2 := HI'.out.tl (!me)
                have hgot := hsx.got me (by omega)
                rw [hp, e3] at hgot
                have HGOT := Lib.hid hgot
                have HTC := Lib.hid (show (M'.tc t')[r]? = some (sl (M'.t (!me)) (t'.t (!me)).length) from by rw [← e2]; exact tc_at M' t' (!me))
                obtain ⟨xs, hxs⟩ : ∃ xs, t'.s.g me = xs := ⟨_, rfl⟩
                obtain ⟨ys, hys⟩ : ∃ ys, t'.t (!me) = ys := ⟨_, rfl⟩
                rw [hxs] at hl1 hl2 hgl2 HGOT
                rw [hys] at hl1 hl2 htl2 HTC
                have HYS := Lib.hid hys
                have HX := Lib.hid hl1
                clear hsx hbx hgot hxs hys hl1 e1 e2 e3 e4 hme hm hmr
                go_wp2_with fail
                refine (HGOT.out).mono ?_
                rintro e w8 ⟨A8, c8, G8, rfl, hv8, hs8, hb8⟩
                have y2 := (cell_of_block (hs8.x 0 rfl) r).trans HTC.out
                unfold sl at y2
                have hvt := hs8.tv (!me)
                rw [HYS.out] at hvt
                have hd1 : decide ((ys.length : Int) < (xs.length : Int)) = false := by simp; omega
                have j0 : (0 : Int) ≤ (xs.length : Int) := by omega
                have j1 : (xs.length : Int) ≤ ((M'.t (!me)).c : Int) := by have := hvt.le; omega
                have hv9 := vec_take hvt hl2
                rw [← List.map_take, ← HX.out] at hv9
                have HV8 := Lib.hid (And.intro hv8 hv9)
                have HS8 := Lib.hid hs8
                have HB8 := Lib.hid (HBX.out.trans hb8)
                clear hv8 hvt hv9 hs8 hb8
                go_wp2_with fail
                refine (Link.texts_is HV8.out.1 HV8.out.2 (by omega)).mono ?_
                rintro e w9 ⟨rfl, nn, rfl⟩
                have HS9 := Lib.hid (HS8.out.after (below_drewN (Below.refl _ _) nn))
                have HB9 := Lib.hid (below_drewN HB8.out nn)
                clear y2
                go_wp2_with fail
                go_roundw
                case rel => exact ⟨m' + 1, by omega, by go_num, HS9.out, HB9.out⟩
                case measure => simp [intOf]; omega
              · have hm3 : m = 2 := by omega
                have dm : decide ((m : Int) < 2) = false := by simp; omega
                have HN := Lib.hid (show OnceK first w M.p w2.heap.size (w2.heap.size + 1) (k + 1) wr from ⟨M', t', hp, hsx, hbx, HI'.out⟩)
                clear hsx hbx hm3
                go_wp2_with fail
                go_roundw
                case rel => exact ⟨k + 1, hlt, by go_num, HN.out⟩
                case measure => simp [intOf]; omega
      · have hk2 : k = l.length := by omega
        have hd : decide ((k : Int) < (l.length : Int)) = false := by simp; omega
        clear hb hk2 hk
        go_wp2_with fail
        go_ret
        exact ⟨rfl, HB.out⟩
end Go.Proofs.YtihhflajkohibaaDoor.Pipe
