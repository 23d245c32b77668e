/- Layer 9: the walk of LinkOnce. Conditions: the slice of acts lies in memory that came in. -/
import Derived.Test.YtblaanohidldpaaLinkPlay2
import Derived.BigQuiet
namespace Go.Proofs.Ytblaanohidldpaa.Link
set_option linter.unusedSimpArgs false
set_option linter.unusedVariables false
open Go.RowKit
/-- what stands between two acts -/
def OnceSt (f0 : Int) (b : Nat) (w : World) (k : Nat) (wr : World) : Prop :=
  ∃ (M : Mem2) (t : T2), Lay w.heap.size M t [boxT b (M.cells t) 60] wr ∧ Below w.heap.size w wr ∧ PairT f0 t ∧ Short2 t k
theorem OnceSt.after {f0 : Int} {b k : Nat} {w wr w' : World} (h : OnceSt f0 b w k wr) (hb : Below wr.heap.size wr w') : OnceSt f0 b w k w' := by
  obtain ⟨M, t, h1, h2, h3⟩ := h
  exact ⟨M, t, h1.after hb, h2.trans (hb.mono h2.size), h3⟩
theorem OnceSt.below {f0 : Int} {b k : Nat} {w wr : World} (h : OnceSt f0 b w k wr) : Below w.heap.size w wr := by
  obtain ⟨M, t, h1, h2, h3⟩ := h; exact h2
theorem ActAt.of_below {w w' : World} {g o B : Nat} {a : Act9} (h : ActAt w g o a) (hb : Below B w w') (hg : g < B) : ActAt w' g o a :=
  ⟨(hb.cell (p := ⟨g, _, none⟩) hg).trans h.c0, (hb.cell (p := ⟨g, _, none⟩) hg).trans h.c1, (hb.cell (p := ⟨g, _, none⟩) hg).trans h.c2, (hb.cell (p := ⟨g, _, none⟩) hg).trans h.c3, (hb.cell (p := ⟨g, _, none⟩) hg).trans h.c4, (hb.cell (p := ⟨g, _, none⟩) hg).trans h.c5, (hb.cell (p := ⟨g, _, none⟩) hg).trans h.c6, (hb.cell (p := ⟨g, _, none⟩) hg).trans h.c7, (hb.cell (p := ⟨g, _, none⟩) hg).trans h.c8⟩
set_option maxRecDepth 100000 in
set_option maxHeartbeats 16000000 in
theorem once_walk (first window queue wait : Int) (hu : u first = first) (A : Option Addr) (c : Nat) (l : List Act9) (w : World) (hA : Sl w 0 w.heap.size 9 A l.length (l.flatMap Act9.cells)) (hy : l.length ≤ maxLen) :
    Calls Try.prog 5 #[.int .u64 first, .int .i64 window, .int .i64 queue, .int .i64 wait, .slice A l.length c] w fun e w' => e = .returned (.bool true) ∧ Below w.heap.size w w' := by
  have hy' := hy
  unfold maxLen at hy
  have HU := Lib.hid hu
  clear hu
  have hb1 : Below w.heap.size w (w.alloc (.cells zero8 60)) := (Below.refl _ _).alloc (Nat.le_refl _) _
  have hn1 := heap_alloc_new w (.cells zero8 60)
  unfold zero8 at hb1 hn1
  have HB1 := Lib.hid hb1
  have HN1 := Lib.hid hn1
  clear hb1 hn1
  go_enter Try.func5, Try.ntmps5
  go_wp2_with fail
  refine (new_at 1 first window queue wait HU.out _).mono ?_
  rintro e w2 ⟨p, rfl, hp, h2, hb2⟩
  have HP2 := Lib.hid (And.intro hp (And.intro h2 hb2))
  clear hp h2 hb2
  go_wp2_with fail
  refine (new_at 1 first window queue wait HU.out _).mono ?_
  rintro e w3 ⟨q, rfl, hq, h3, hb3⟩
  have hsz1 : w.heap.size < (w.alloc (.cells #[.pointer none, .pointer none, .slice none 0 0, .slice none 0 0, .slice none 0 0, .slice none 0 0, .slice none 0 0, .slice none 0 0] 60)).heap.size := by simp
  have hpl : p < w2.heap.size := HP2.out.2.1.lt HP2.out.2.1.mem
  have hbx3 := (hb3.block _ (Nat.lt_of_lt_of_le hsz1 HP2.out.2.2.size)).trans ((HP2.out.2.2.block _ hsz1).trans HN1.out)
  have hbw3 : Below w.heap.size w w3 := (HB1.out.trans (HP2.out.2.2.mono (by simp))).trans (hb3.mono (by have := HP2.out.2.2.size; simp at this; omega))
  have hp3 := HP2.out.2.1.after hb3
  have hwp : w.heap.size < p := by have := HP2.out.1; simp at this; omega
  have hpq : p < q := by omega
  have hst : OnceSt first w.heap.size w 0 ((w3.setCell ⟨w.heap.size, 0, none⟩ (.pointer (some ⟨p, 0, none⟩))).setCell ⟨w.heap.size, 1, none⟩ (.pointer (some ⟨q, 0, none⟩))) := by
    have hk : Kept [w.heap.size] w3 ((w3.setCell ⟨w.heap.size, 0, none⟩ (.pointer (some ⟨p, 0, none⟩))).setCell ⟨w.heap.size, 1, none⟩ (.pointer (some ⟨q, 0, none⟩))) := ((Kept.refl _ _).setCell (.inl (by simp)) _).setCell (.inl (by simp)) _
    refine ⟨m0 p q, t0 (new 1 first window queue wait), lay_start (hp3.kept hk (by simp; omega)) (h3.kept hk (by simp; omega)) (by omega) (by omega) (by omega) ⟨Nat.le_refl _, by omega, by omega⟩ ?_, hbw3.trans (hk.below (by have := hbw3.size; omega) (by simp)), Pair.start 1 window queue wait first HU.out, ⟨fun _ => by simp [t0], fun _ => by simp [t0], fun _ => by simp [t0]⟩⟩
    have := set_block (set_block hbx3 0 (.pointer (some ⟨p, 0, none⟩))) 1 (.pointer (some ⟨q, 0, none⟩))
    simpa [Mem2.cells, m0, t0, sl] using this
  have HST := Lib.hid hst
  have y0 := cell_of_block hbx3 0
  have y1 := cell_of_block hbx3 1
  have g0 := frozen_of_block hbx3 0
  have g1 := frozen_of_block hbx3 1
  simp at y0 y1
  clear hst hbx3 hbw3 hp3 hwp hq h3 hb3 hsz1 hpq hpl
  go_wp2_with fail
  refine (awake_any _).mono ?_
  rintro e w4 ⟨rfl, hb4⟩
  have HS4 := Lib.hid (HST.out.after hb4)
  clear hb4 y0 y1 g0 g1
  go_wp2_with fail
  refine (few_any (hA.below HS4.out.below (Nat.le_refl _)) hy').mono ?_
  rintro e w5 ⟨⟨b0, rfl, hfew⟩, rfl⟩
  have HFEW := Lib.hid hfew
  clear hfew
  cases b0
  · go_wp2_with fail
    refine (awake_any _).mono ?_
    rintro e w5 ⟨rfl, hb5⟩
    have HS5 := Lib.hid (HS4.out.after hb5)
    clear hb5
    go_wp2_with fail
    go_ret
    exact ⟨rfl, HS5.out.below⟩
  · obtain ⟨h80, _⟩ := HFEW.out rfl
    obtain ⟨M, t, hl4, _, _, _⟩ := id HS4.out
    have hbx4 : w4.heap[w.heap.size]? = some (.cells (M.cells t) 60 (0, 0)) := hl4.x 0 rfl
    have y0 := cell_of_block hbx4 0
    have y1 := cell_of_block hbx4 1
    simp [Mem2.cells] at y0 y1
    clear hl4 hbx4
    go_wp2_with fail
    clear y0 y1
    go_loopw [12] (fun i wr => ∃ k : Nat, k ≤ l.length ∧ i = .int .i64 (k : Int) ∧ OnceSt first w.heap.size w k wr) (fun i _ => l.length - (intOf i).toNat)
    case atStart => exact ⟨0, Nat.zero_le _, rfl, HS4.out⟩
    case round =>
      obtain ⟨k, hk, rfl, hr⟩ := hrel
      obtain ⟨M, t, hl, hbw, hpt, hsh⟩ := hr
      have HL := Lib.hid hl
      have HB := Lib.hid hbw
      have HPT := Lib.hid hpt
      have HSH := Lib.hid hsh
      clear hl hpt hsh
      by_cases hlt : k < l.length
      · obtain ⟨g, o, rfl, _, hgl, hat⟩ := acts_at hA hlt
        have i0' : (0 : Int) ≤ (k : Int) := by omega
        have i1 : (k : Int) < (l.length : Int) := by omega
        generalize l[k] = a at *
        have HAT := Lib.hid hat
        obtain ⟨C, hC⟩ : ∃ C, M.cells t = C := ⟨_, rfl⟩
        rw [hC] at HL
        have HC := Lib.hid hC
        have hsz : Sizes t 100000 := ⟨fun b => Nat.le_trans (HSH.out.o b) (by omega), fun b => Nat.le_trans (HSH.out.s b) (by omega), fun b => Nat.le_trans (HSH.out.g b) (by omega)⟩
        have HSZ := Lib.hid hsz
        clear hat hC hbw hsz
        go_wp2_with fail
        refine' wp_flow [only 0 (.agg C), only 1 _, only 2 _, only 3 _, only 4 (.agg #[.int .i64 a.K, .int .i64 a.N, .bool a.side, .string a.S, .int .i64 a.F.kind, .int .i64 a.F.epoch, .int .u64 a.F.seq, .int .u64 a.F.ack, .string a.F.body]), (fun us v => ∃ M' : Mem2, us 5 = .agg (M'.cells (t.play a)) ∧ Lay w.heap.size M' (t.play a) [boxT w.heap.size C 60] v), (fun _ v => ∃ M' : Mem2, Lay w.heap.size M' (t.play a) [boxT w.heap.size (M'.cells (t.play a)) 60] v), (fun _ v => Lay w.heap.size M t [boxT w.heap.size C 60] v)] (fun v => Below w.heap.size w v) [[7], [], [], [1, 2], [3], [0, 4, 7], [5]] [[], [], [], [], [], [7], [5]] [[], [], [], [], [], [], []] [[7], [7], [7], [7], [7], [], []] [5, 6, 7] [0, 0, 0, 6, 14, 31, 63] _ (fun us => ?hfr) (by kernel_rfl) (by kernel_rfl) (by kernel_rfl) ⟨only_still _, only_still _, only_still _, only_still _, only_still _, trivial, trivial, trivial, trivial⟩ (below_drewN HB.out 1) (by simp) (HL.out.after (below_drewN (Below.refl _ _) 1)) ?hst ?hla
        case hfr => (simp only [List.cons_append, List.nil_append, putAll, Act.put, List.setIfInBounds_toArray, List.set_cons_zero, List.set_cons_succ, Nat.reduceAdd]; rfl)
        case hst =>
          refine ⟨?_, ?_, ?_, ?_, ?_, ?_, ?_, trivial⟩
          · intro us v hR hn ho K hK
            obtain ⟨ns, -⟩ := hn
            clear ho
            obtain ⟨x0, x1, x2, x3, x4, x5, x6, x7, x8⟩ := HAT.out.of_below hR hgl
            have hbx : v.heap[w.heap.size]? = some (.cells C 60 (0, 0)) := (show Lay w.heap.size M t [boxT w.heap.size C 60] v from ns).x 0 rfl
            have hcs : (Try.prog.info? 60).map (·.size) = some C.size := by rw [← HC.out]; kernel_rfl
            rw [if_pos (by rfl)]
            refine wp_load_row 60 _ (by rfl) w.heap.size (by rfl) 60 C (0, 0) _ hbx Try.underlying60 rfl hcs ?_
            refine hK _ _ _ (by simp only [Act.put, List.setIfInBounds_toArray, List.set_cons_zero, List.set_cons_succ, Nat.reduceAdd] <;> rfl) ?_ hR ⟨fun h => h, trivial⟩
            exact only_mk (v := v) rfl
          · intro us v hR hn ho K hK
            clear ho
            obtain ⟨x0, x1, x2, x3, x4, x5, x6, x7, x8⟩ := HAT.out.of_below hR hgl
            rw [if_pos (by rfl)]
            go_simp
            refine hK _ _ _ (by simp only [Act.put, List.setIfInBounds_toArray, List.set_cons_zero, List.set_cons_succ, Nat.reduceAdd] <;> rfl) ?_ hR ⟨fun h => h, trivial⟩
            refine only_mk (v := v) ?_
            with_reducible rfl
          · intro us v hR hn ho K hK
            clear ho
            obtain ⟨x0, x1, x2, x3, x4, x5, x6, x7, x8⟩ := HAT.out.of_below hR hgl
            rw [if_pos (by rfl)]
            go_simp
            refine hK _ _ _ (by simp only [Act.put, List.setIfInBounds_toArray, List.set_cons_zero, List.set_cons_succ, Nat.reduceAdd] <;> rfl) ?_ hR ⟨fun h => h, trivial⟩
            refine only_mk (v := v) ?_
            with_reducible rfl
          · intro us v hR hn ho K hK
            obtain ⟨n1, n2, -⟩ := hn
            have n1 : us 1 = _ := n1
            have n2 : us 2 = _ := n2
            clear ho
            obtain ⟨x0, x1, x2, x3, x4, x5, x6, x7, x8⟩ := HAT.out.of_below hR hgl
            rw [if_pos (by rfl)]
            go_simp
            refine hK _ _ _ (by simp only [Act.put, List.setIfInBounds_toArray, List.set_cons_zero, List.set_cons_succ, Nat.reduceAdd, n1, n2] <;> rfl) ?_ hR ⟨fun h => h, trivial⟩
            refine only_mk (v := v) ?_
            with_reducible rfl
          · intro us v hR hn ho K hK
            obtain ⟨n3, -⟩ := hn
            have n3 : us 3 = _ := n3
            clear ho
            obtain ⟨x0, x1, x2, x3, x4, x5, x6, x7, x8⟩ := HAT.out.of_below hR hgl
            rw [if_pos (by rfl)]
            go_simp
            refine hK _ _ _ (by simp only [Act.put, List.setIfInBounds_toArray, List.set_cons_zero, List.set_cons_succ, Nat.reduceAdd, n3] <;> rfl) ?_ hR ⟨fun h => h, trivial⟩
            refine only_mk (v := v) ?_
            with_reducible rfl
          · intro us v hR hn ho K hK
            obtain ⟨n0, n4, ns, -⟩ := hn
            have n0 : us 0 = _ := n0
            have n4 : us 4 = _ := n4
            clear ho
            obtain ⟨x0, x1, x2, x3, x4, x5, x6, x7, x8⟩ := HAT.out.of_below hR hgl
            have hpl := play_any (show Lay w.heap.size M t [boxT w.heap.size C 60] v from ns) hR.size HSZ.out a
            rw [HC.out] at hpl
            rw [if_pos (by rfl)]
            clear x0 x1 x2 x3 x4 x5 x6 x7 x8
            have HPLY := Lib.hid hpl
            clear hpl
            go_simp
            refine (HPLY.out).mono ?_
            rintro e v' ⟨M', rfl, hl', hb'⟩
            dsimp only
            exact hK _ _ _ (by simp only [Act.put, List.setIfInBounds_toArray, List.set_cons_zero, List.set_cons_succ, Nat.reduceAdd, n0, n4] <;> rfl) ⟨M', rfl, hl'⟩ (hR.trans hb') trivial
          · intro us v hR hn ho K hK
            obtain ⟨n5, -⟩ := hn
            clear ho
            obtain ⟨x0, x1, x2, x3, x4, x5, x6, x7, x8⟩ := HAT.out.of_below hR hgl
            obtain ⟨M', n5, l5⟩ := n5
            have hbx : v.heap[w.heap.size]? = some (.cells C 60 (0, 0)) := l5.x 0 rfl
            rw [if_pos (by rfl)]
            refine wp_store_all 60 (.tmp 11) (.tmp 61) (by rfl) w.heap.size _ _ _ (by rfl) n5 hbx (by rw [← HC.out]; rfl) (by kernel_rfl) (cells_one M' (t.play a)) ?_
            intro v' hq hk
            have ht : Turns [w.heap.size] [w.heap.size] v v' := ⟨hk, fun _ h => .inl h⟩
            have l6 := l5.setX hR.size 0 (o := boxT w.heap.size C 60) (o' := boxT w.heap.size (M'.cells (t.play a)) 60) rfl hq (boxT_local _ _ _) ht
            exact hK undef _ _ (by simp only [Act.put, List.setIfInBounds_toArray, List.set_cons_zero, List.set_cons_succ, Nat.reduceAdd, n5] <;> rfl) ⟨M', l6⟩ (hR.trans (hk.below hR.size (by simp))) trivial
        case hla =>
          intro us v hR hl
          obtain ⟨n0, n1, n2, n3, n4, n6, -⟩ := need_last hl [0, 1, 2, 3, 4, 6] (by kernel_rfl)
          have n0 : us 0 = _ := n0
          have n1 : us 1 = _ := n1
          have n2 : us 2 = _ := n2
          have n3 : us 3 = _ := n3
          have n4 : us 4 = _ := n4
          obtain ⟨x0, x1, x2, x3, x4, x5, x6, x7, x8⟩ := HAT.out.of_below hR hgl
          simp only [n0, n1, n2, n3, n4]
          clear hl n0 n1 n2 n3 n4
          obtain ⟨M2, hl2⟩ := n6
          have HL2 := Lib.hid hl2
          have HB2 := Lib.hid hR
          have HPT2 := Lib.hid (HPT.out.play a (fun c => by have := HSH.out.s c; omega))
          have HSH2 := Lib.hid (HSH.out.play HPT.out.ok a)
          generalize t.play a = t2 at *
          clear hl2 hR x0 x1 x2 x3 x4 x5 x6 x7 x8
          go_wp2_with fail
          go_loopw [13] (fun i wx => ∃ m q : Nat, m ≤ 2 ∧ i = .int .i64 ((m : Nat) : Int) ∧ wx = v.drewN q) (fun i _ => 2 - (intOf i).toNat)
          case atStart => exact ⟨0, 0, by omega, rfl, rfl⟩
          case round =>
            obtain ⟨m, q, hm, rfl, hwq⟩ := hrel
            have HWQ := Lib.hid hwq
            have HL3 := Lib.hid (show Lay w.heap.size M2 t2 [boxT w.heap.size (M2.cells t2) 60] wr from by rw [hwq]; exact HL2.out.after (below_drewN (Below.refl _ _) q))
            have HB3 := Lib.hid (show Below w.heap.size w wr from by rw [hwq]; exact below_drewN HB2.out q)
            clear hwq
            by_cases hml : m < 2
            · have d0 : decide ((m : Int) < 2) = true := by simp; omega
              obtain ⟨me, hme⟩ : ∃ me : Bool, me.toNat = m := ⟨decide (m = 1), by have : m = 0 ∨ m = 1 := by omega
                                                                                  rcases this with rfl | rfl <;> rfl⟩
              obtain ⟨r, hr⟩ : ∃ r, 1 - m = r := ⟨_, rfl⟩
              have hne : (!me).toNat = r := by rw [← hr, ← hme]; cases me <;> rfl
              obtain ⟨e1, e2, e3, e4⟩ := HPT2.out.law me
              have hbx : wr.heap[w.heap.size]? = some (.cells (M2.cells t2) 60 (0, 0)) := HL3.out.x 0 rfl
              have y0 := (cell_of_block hbx m).trans (show (M2.cells t2)[m]? = some (.pointer (some ⟨M2.p me, 0, none⟩)) from by rw [← hme]; exact cells_e M2 t2 me)
              have y4 := (cell_of_block hbx (4 + m)).trans (show (M2.cells t2)[4 + m]? = some (sl (M2.s me) (t2.s me).length) from by rw [← hme]; exact cells_s M2 t2 me)
              have y6 := (cell_of_block hbx (6 + r)).trans (show (M2.cells t2)[6 + r]? = some (sl (M2.g (!me)) (t2.g (!me)).length) from by rw [← hne]; exact cells_g M2 t2 (!me))
              have HE := Lib.hid (HL3.out.e me)
              have HVS := Lib.hid (show ∀ n, Vec (wr.drewN n) (M2.s me).F 1 (M2.s me).A (t2.s me).length (M2.s me).c ((t2.s me).map .string) from fun n => (HL3.out.s me).drewN n)
              have HVG := Lib.hid (show ∀ n, Vec (wr.drewN n) (M2.g (!me)).F 1 (M2.g (!me)).A (t2.g (!me)).length (M2.g (!me)).c ((t2.g (!me)).map .string) from fun n => (HL3.out.g (!me)).drewN n)
              have hls := HSH2.out.s me
              unfold sl at y4 y6
              generalize hxs : t2.g (!me) = xs at *
              generalize hys : t2.s me = ys at *
              have HE1 := Lib.hid e1
              obtain ⟨nb, hnb⟩ : ∃ nb, (t2.e me).bodies.length = nb := ⟨_, rfl⟩
              rw [hnb] at e3 e4
              have HNB := Lib.hid hnb
              have d1 : decide (ys.length < nb) = false := by simp; omega
              have d2 : decide ((xs.length : Int) < (ys.length : Int) - (nb : Int)) = false := by simp; omega
              have m0 : (0 : Int) ≤ (m : Int) := by omega
              have m1 : (m : Int) < 2 := by omega
              have hmr : 1 - (m : Int) = (r : Int) := by omega
              have r0 : (0 : Int) ≤ (r : Int) := by omega
              have r1 : (r : Int) < 2 := by omega
              have hw2 : IntKind.i64.wrap ((ys.length : Int) - (nb : Int)) = (ys.length : Int) - (nb : Int) := IntWalk.i64_in _ (by omega)
              have hw1 : IntKind.i64.wrap (r : Int) = (r : Int) := IntWalk.i64_in _ (by omega)
              clear hr e1 hxs hys hnb hbx hme hne
              go_wp2_with fail
              refine (waiting_any HE.out).mono ?_
              rw [HNB.out]
              rintro e w7 ⟨rfl, rfl⟩
              go_wp2_with fail
              go_quiet ((go_at_call 25; exact Calls.quiet_of (begins_is (HVG.out _) (HVS.out _) e2 HE1.out (by omega))))
              go_wp2_with fail
              go_roundw
              case rel => exact ⟨m + 1, q + nq, by omega, by go_num, by rw [HWQ.out, World.drewN_drewN]⟩
              case measure => simp [intOf]; omega
            · obtain rfl : m = 2 := by omega
              have hon : OnceSt first w.heap.size w (k + 1) wr := ⟨M2, t2, HL3.out, HB3.out, HPT2.out, HSH2.out⟩
              have HON := Lib.hid hon
              clear hon
              go_wp2_with fail
              go_roundw
              case rel => exact ⟨k + 1, hlt, by go_num, HON.out⟩
              case measure => simp [intOf]; omega
      · obtain rfl : k = l.length := by omega
        go_wp2_with fail
        go_ret
        exact ⟨rfl, HB.out⟩
end Go.Proofs.Ytblaanohidldpaa.Link
