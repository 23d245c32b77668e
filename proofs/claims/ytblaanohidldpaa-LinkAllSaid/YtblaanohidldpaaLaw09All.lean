/- Layer 9: the walk of LinkAll. Conditions: the slice of acts lies in memory that came in. -/
import Derived.Test.YtblaanohidldpaaLaw09Once
import Derived.Test.YtblaanohidldpaaLinkRound2
namespace Go.Proofs.Ytblaanohidldpaa.Link
set_option linter.unusedSimpArgs false
set_option linter.unusedVariables false
open Go.RowKit
/-- what stands between two acts -/
def OnceK (f0 : Int) (w : World) (k : Nat) (wr : World) : Prop :=
  ∃ (M : Mem2) (t : T2), Lay w.heap.size M t [boxT w.heap.size (M.cells t) 60] wr ∧ Below w.heap.size w wr ∧ PairT f0 t ∧ Short2 t k ∧ Kin t
theorem OnceK.after {f0 : Int} {k : Nat} {w wr w' : World} (h : OnceK f0 w k wr) (hb : Below wr.heap.size wr w') : OnceK f0 w k w' := by
  obtain ⟨M, t, h1, h2, h3⟩ := h
  exact ⟨M, t, h1.after hb, h2.trans (hb.mono h2.size), h3⟩
theorem OnceK.below {f0 : Int} {k : Nat} {w wr : World} (h : OnceK f0 w k wr) : Below w.heap.size w wr := by
  obtain ⟨M, t, h1, h2, h3⟩ := h; exact h2
section
variable {B b : Nat} {M : Mem2} {t : T2} {X : List Thing}
theorem all_e {v : World} {C : Array Value} {me : Bool} {F' : List Nat} {z : LE} {t' : T2} (hC : M.cells t = C) (ht' : t' = { t with e := upB t.e me z }) (hl : Lay B { M with F := upB M.F me F' } { t with e := upB t.e me z } (boxT b C 60 :: X) v) : ∃ M' : Mem2, Lay B M' t' (boxT b (M'.cells t') 60 :: X) v := by
  subst ht'; subst hC
  exact ⟨{ M with F := upB M.F me F' }, hl⟩
theorem all_g {v : World} {C : Array Value} {m : Nat} {me : Bool} {F' : List Nat} {z : LE} {arr : Arr} {l : List ByteArray} {t' : T2} (hm : me.toNat = m) (hC : M.cells t = C) (ht' : t' = { t with e := upB t.e me z, g := upB t.g me l })
    (hl : Lay B { M with F := upB M.F me F', g := upB M.g me arr } { t with e := upB t.e me z, g := upB t.g me l } (boxT b (C.setIfInBounds (6 + m) (sl arr l.length)) 60 :: X) v) : ∃ M' : Mem2, Lay B M' t' (boxT b (M'.cells t') 60 :: X) v := by
  subst ht'; subst hC; subst hm
  rw [set_g M t me arr l] at hl
  exact ⟨{ M with F := upB M.F me F', g := upB M.g me arr }, hl⟩
end
/-- what stands between two rounds -/
def RoundSt (f0 : Int) (w : World) (r : Nat) (wr : World) : Prop :=
  ∃ t : T2, AllSt w t wr ∧ RdT f0 t r ∧ (∀ b, (t.s b).length ≤ 80) ∧ ∀ b, (t.g b).length ≤ 80 + 2000 * r
set_option maxRecDepth 100000 in
set_option maxHeartbeats 16000000 in
theorem all_walk (first window queue wait : Int) (hu : u first = first) (A : Option Addr) (c : Nat) (l : List Act9) (w : World) (hA : Sl w 0 w.heap.size 9 A l.length (l.flatMap Act9.cells)) (hy : l.length ≤ maxLen) :
    Calls Try.prog 6 #[.int .u64 first, .int .i64 window, .int .i64 queue, .int .i64 wait, .slice A l.length c] w fun e w' => e = .returned (.bool true) ∧ Below w.heap.size w w' := by
  have hy' := hy
  unfold maxLen at hy
  have HU := Lib.hid hu
  clear hu
  obtain ⟨i0, hi0, hz0, hz1, hz2⟩ := info_parts str_info
  have hb1 : Below w.heap.size w (w.alloc (.cells zero8 60)) := (Below.refl _ _).alloc (Nat.le_refl _) _
  have hn1 := heap_alloc_new w (.cells zero8 60)
  unfold zero8 at hb1 hn1
  have HB1 := Lib.hid hb1
  have HN1 := Lib.hid hn1
  clear hb1 hn1
  go_enter Try.func6, Try.ntmps6
  go_wp2_with fail
  refine (new_at 1 first window queue wait HU.out _).mono ?_
  rintro e w2 ⟨p, rfl, hp, h2, hb2⟩
  have HP2 := Lib.hid (And.intro hp (And.intro h2 hb2))
  clear hp h2 hb2
  go_wp2_with fail
  refine (new_at 1 first window queue wait HU.out _).mono ?_
  rintro e w3 ⟨q, rfl, hq, h3, hb3⟩
  have hsz1 : w.heap.size < (w.alloc (.cells #[.pointer none, .pointer none, .slice none 0 0, .slice none 0 0, .slice none 0 0, .slice none 0 0, .slice none 0 0, .slice none 0 0] 60)).heap.size := by simp
  have hpl : p < w2.heap.size := HP2.out.2.1.lt HP2.out.2.1.mem
  have hbx3 := (hb3.block _ (Nat.lt_of_lt_of_le hsz1 HP2.out.2.2.size)).trans ((HP2.out.2.2.block _ hsz1).trans HN1.out)
  have hbw3 : Below w.heap.size w w3 := (HB1.out.trans (HP2.out.2.2.mono (by simp))).trans (hb3.mono (by have := HP2.out.2.2.size; simp at this; omega))
  have hp3 := HP2.out.2.1.after hb3
  have hwp : w.heap.size < p := by have := HP2.out.1; simp at this; omega
  have hpq : p < q := by omega
  have hst : OnceK first w 0 ((w3.setCell ⟨w.heap.size, 0, none⟩ (.pointer (some ⟨p, 0, none⟩))).setCell ⟨w.heap.size, 1, none⟩ (.pointer (some ⟨q, 0, none⟩))) := by
    have hk : Kept [w.heap.size] w3 ((w3.setCell ⟨w.heap.size, 0, none⟩ (.pointer (some ⟨p, 0, none⟩))).setCell ⟨w.heap.size, 1, none⟩ (.pointer (some ⟨q, 0, none⟩))) := ((Kept.refl _ _).setCell (.inl (by simp)) _).setCell (.inl (by simp)) _
    refine ⟨m0 p q, t0 (new 1 first window queue wait), lay_start (hp3.kept hk (by simp; omega)) (h3.kept hk (by simp; omega)) (by omega) (by omega) (by omega) ⟨Nat.le_refl _, by omega, by omega⟩ ?_, hbw3.trans (hk.below (by have := hbw3.size; omega) (by simp)), Pair.start 1 window queue wait first HU.out, ⟨fun _ => by simp [t0], fun _ => by simp [t0], fun _ => by simp [t0]⟩, Kin.start window queue wait first⟩
    have := set_block (set_block hbx3 0 (.pointer (some ⟨p, 0, none⟩))) 1 (.pointer (some ⟨q, 0, none⟩))
    simpa [Mem2.cells, m0, t0, sl] using this
  have HST := Lib.hid hst
  have y0 := cell_of_block hbx3 0
  have y1 := cell_of_block hbx3 1
  have g0 := frozen_of_block hbx3 0
  have g1 := frozen_of_block hbx3 1
  simp at y0 y1
  clear hst hbx3 hbw3 hp3 hwp hq h3 hb3 hsz1 hpq hpl
  go_wp2_with fail
  refine (awake_any _).mono ?_
  rintro e w4 ⟨rfl, hb4⟩
  have HS4 := Lib.hid (HST.out.after hb4)
  clear hb4 y0 y1 g0 g1
  go_wp2_with fail
  refine (few_any (hA.below HS4.out.below (Nat.le_refl _)) hy').mono ?_
  rintro e w5 ⟨⟨b0, rfl, hfew⟩, rfl⟩
  have HFEW := Lib.hid hfew
  clear hfew
  cases b0
  · go_wp2_with fail
    refine (awake_any _).mono ?_
    rintro e w5 ⟨rfl, hb5⟩
    have HS5 := Lib.hid (HS4.out.after hb5)
    clear hb5
    go_wp2_with fail
    go_ret
    exact ⟨rfl, HS5.out.below⟩
  · obtain ⟨h80, _⟩ := HFEW.out rfl
    obtain ⟨M, t, hl4, _, _, _, _⟩ := id HS4.out
    have hbx4 : w4.heap[w.heap.size]? = some (.cells (M.cells t) 60 (0, 0)) := hl4.x 0 rfl
    have y0 := cell_of_block hbx4 0
    have y1 := cell_of_block hbx4 1
    simp [Mem2.cells] at y0 y1
    clear hl4 hbx4
    go_wp2_with fail
    clear y0 y1
    go_loopw [12] (fun i wr => ∃ k : Nat, k ≤ l.length ∧ i = .int .i64 (k : Int) ∧ OnceK first w k wr) (fun i _ => l.length - (intOf i).toNat)
    case atStart => exact ⟨0, Nat.zero_le _, rfl, HS4.out⟩
    case round =>
      obtain ⟨k, hk, rfl, hr⟩ := hrel
      obtain ⟨M, t, hl, hbw, hpt, hsh, hkn⟩ := hr
      have HL := Lib.hid hl
      have HB := Lib.hid hbw
      have HPT := Lib.hid hpt
      have HSH := Lib.hid hsh
      have HKN := Lib.hid hkn
      clear hl hpt hsh hkn
      by_cases hlt : k < l.length
      · obtain ⟨g, o, rfl, _, hgl, hat⟩ := acts_at hA hlt
        have i0' : (0 : Int) ≤ (k : Int) := by omega
        have i1 : (k : Int) < (l.length : Int) := by omega
        generalize l[k] = a at *
        have HAT := Lib.hid hat
        obtain ⟨C, hC⟩ : ∃ C, M.cells t = C := ⟨_, rfl⟩
        rw [hC] at HL
        have HC := Lib.hid hC
        have hsz : Sizes t 100000 := ⟨fun b => Nat.le_trans (HSH.out.o b) (by omega), fun b => Nat.le_trans (HSH.out.s b) (by omega), fun b => Nat.le_trans (HSH.out.g b) (by omega)⟩
        have HSZ := Lib.hid hsz
        clear hat hC hbw hsz
        go_wp2_with fail
        refine' wp_flow [only 0 (.agg C), only 1 _, only 2 _, only 3 _, only 4 (.agg #[.int .i64 a.K, .int .i64 a.N, .bool a.side, .string a.S, .int .i64 a.F.kind, .int .i64 a.F.epoch, .int .u64 a.F.seq, .int .u64 a.F.ack, .string a.F.body]), (fun us v => ∃ M' : Mem2, us 5 = .agg (M'.cells (t.play a)) ∧ Lay w.heap.size M' (t.play a) [boxT w.heap.size C 60] v), (fun _ v => ∃ M' : Mem2, Lay w.heap.size M' (t.play a) [boxT w.heap.size (M'.cells (t.play a)) 60] v), (fun _ v => Lay w.heap.size M t [boxT w.heap.size C 60] v)] (fun v => Below w.heap.size w v) [[7], [], [], [1, 2], [3], [0, 4, 7], [5]] [[], [], [], [], [], [7], [5]] [[], [], [], [], [], [], []] [[7], [7], [7], [7], [7], [], []] [5, 6, 7] [0, 0, 0, 6, 14, 31, 63] _ (fun us => ?hfr) (by kernel_rfl) (by kernel_rfl) (by kernel_rfl) ⟨only_still _, only_still _, only_still _, only_still _, only_still _, trivial, trivial, trivial, trivial⟩ (below_drewN HB.out 1) (by simp) (HL.out.after (below_drewN (Below.refl _ _) 1)) ?hst ?hla
        case hfr => (simp only [List.cons_append, List.nil_append, putAll, Act.put, List.setIfInBounds_toArray, List.set_cons_zero, List.set_cons_succ, Nat.reduceAdd]; rfl)
        case hst =>
          refine ⟨?_, ?_, ?_, ?_, ?_, ?_, ?_, trivial⟩
          · intro us v hR hn ho K hK
            obtain ⟨ns, -⟩ := hn
            clear ho
            obtain ⟨x0, x1, x2, x3, x4, x5, x6, x7, x8⟩ := HAT.out.of_below hR hgl
            have hbx : v.heap[w.heap.size]? = some (.cells C 60 (0, 0)) := (show Lay w.heap.size M t [boxT w.heap.size C 60] v from ns).x 0 rfl
            have hcs : (Try.prog.info? 60).map (·.size) = some C.size := by rw [← HC.out]; kernel_rfl
            rw [if_pos (by rfl)]
            refine wp_load_row 60 _ (by rfl) w.heap.size (by rfl) 60 C (0, 0) _ hbx Try.underlying60 rfl hcs ?_
            refine hK _ _ _ (by simp only [Act.put, List.setIfInBounds_toArray, List.set_cons_zero, List.set_cons_succ, Nat.reduceAdd] <;> rfl) ?_ hR ⟨fun h => h, trivial⟩
            exact only_mk (v := v) rfl
          · intro us v hR hn ho K hK
            clear ho
            obtain ⟨x0, x1, x2, x3, x4, x5, x6, x7, x8⟩ := HAT.out.of_below hR hgl
            rw [if_pos (by rfl)]
            go_simp
            refine hK _ _ _ (by simp only [Act.put, List.setIfInBounds_toArray, List.set_cons_zero, List.set_cons_succ, Nat.reduceAdd] <;> rfl) ?_ hR ⟨fun h => h, trivial⟩
            refine only_mk (v := v) ?_
            with_reducible rfl
          · intro us v hR hn ho K hK
            clear ho
            obtain ⟨x0, x1, x2, x3, x4, x5, x6, x7, x8⟩ := HAT.out.of_below hR hgl
            rw [if_pos (by rfl)]
            go_simp
            refine hK _ _ _ (by simp only [Act.put, List.setIfInBounds_toArray, List.set_cons_zero, List.set_cons_succ, Nat.reduceAdd] <;> rfl) ?_ hR ⟨fun h => h, trivial⟩
            refine only_mk (v := v) ?_
            with_reducible rfl
          · intro us v hR hn ho K hK
            obtain ⟨n1, n2, -⟩ := hn
            have n1 : us 1 = _ := n1
            have n2 : us 2 = _ := n2
            clear ho
            obtain ⟨x0, x1, x2, x3, x4, x5, x6, x7, x8⟩ := HAT.out.of_below hR hgl
            rw [if_pos (by rfl)]
            go_simp
            refine hK _ _ _ (by simp only [Act.put, List.setIfInBounds_toArray, List.set_cons_zero, List.set_cons_succ, Nat.reduceAdd, n1, n2] <;> rfl) ?_ hR ⟨fun h => h, trivial⟩
            refine only_mk (v := v) ?_
            with_reducible rfl
          · intro us v hR hn ho K hK
            obtain ⟨n3, -⟩ := hn
            have n3 : us 3 = _ := n3
            clear ho
            obtain ⟨x0, x1, x2, x3, x4, x5, x6, x7, x8⟩ := HAT.out.of_below hR hgl
            rw [if_pos (by rfl)]
            go_simp
            refine hK _ _ _ (by simp only [Act.put, List.setIfInBounds_toArray, List.set_cons_zero, List.set_cons_succ, Nat.reduceAdd, n3] <;> rfl) ?_ hR ⟨fun h => h, trivial⟩
            refine only_mk (v := v) ?_
            with_reducible rfl
          · intro us v hR hn ho K hK
            obtain ⟨n0, n4, ns, -⟩ := hn
            have n0 : us 0 = _ := n0
            have n4 : us 4 = _ := n4
            clear ho
            obtain ⟨x0, x1, x2, x3, x4, x5, x6, x7, x8⟩ := HAT.out.of_below hR hgl
            have hpl := play_any (show Lay w.heap.size M t [boxT w.heap.size C 60] v from ns) hR.size HSZ.out a
            rw [HC.out] at hpl
            rw [if_pos (by rfl)]
            clear x0 x1 x2 x3 x4 x5 x6 x7 x8
            have HPLY := Lib.hid hpl
            clear hpl
            go_simp
            refine (HPLY.out).mono ?_
            rintro e v' ⟨M', rfl, hl', hb'⟩
            dsimp only
            exact hK _ _ _ (by simp only [Act.put, List.setIfInBounds_toArray, List.set_cons_zero, List.set_cons_succ, Nat.reduceAdd, n0, n4] <;> rfl) ⟨M', rfl, hl'⟩ (hR.trans hb') trivial
          · intro us v hR hn ho K hK
            obtain ⟨n5, -⟩ := hn
            clear ho
            obtain ⟨x0, x1, x2, x3, x4, x5, x6, x7, x8⟩ := HAT.out.of_below hR hgl
            obtain ⟨M', n5, l5⟩ := n5
            have hbx : v.heap[w.heap.size]? = some (.cells C 60 (0, 0)) := l5.x 0 rfl
            rw [if_pos (by rfl)]
            refine wp_store_all 60 (.tmp 11) (.tmp 66) (by rfl) w.heap.size _ _ _ (by rfl) n5 hbx (by rw [← HC.out]; rfl) (by kernel_rfl) (cells_one M' (t.play a)) ?_
            intro v' hq hk
            have ht : Turns [w.heap.size] [w.heap.size] v v' := ⟨hk, fun _ h => .inl h⟩
            have l6 := l5.setX hR.size 0 (o := boxT w.heap.size C 60) (o' := boxT w.heap.size (M'.cells (t.play a)) 60) rfl hq (boxT_local _ _ _) ht
            exact hK undef _ _ (by simp only [Act.put, List.setIfInBounds_toArray, List.set_cons_zero, List.set_cons_succ, Nat.reduceAdd, n5] <;> rfl) ⟨M', l6⟩ (hR.trans (hk.below hR.size (by simp))) trivial
        case hla =>
          intro us v hR hl
          obtain ⟨n0, n1, n2, n3, n4, n6, -⟩ := need_last hl [0, 1, 2, 3, 4, 6] (by kernel_rfl)
          have n0 : us 0 = _ := n0
          have n1 : us 1 = _ := n1
          have n2 : us 2 = _ := n2
          have n3 : us 3 = _ := n3
          have n4 : us 4 = _ := n4
          obtain ⟨x0, x1, x2, x3, x4, x5, x6, x7, x8⟩ := HAT.out.of_below hR hgl
          simp only [n0, n1, n2, n3, n4]
          clear hl n0 n1 n2 n3 n4
          obtain ⟨M2, hl2⟩ := n6
          have HL2 := Lib.hid hl2
          have HB2 := Lib.hid hR
          have HPT2 := Lib.hid (HPT.out.play a (fun c => by have := HSH.out.s c; omega))
          have HSH2 := Lib.hid (HSH.out.play HPT.out.ok a)
          have HKN2 := Lib.hid (HKN.out.play a)
          generalize t.play a = t2 at *
          clear hl2 hR x0 x1 x2 x3 x4 x5 x6 x7 x8
          go_wp2_with fail
          go_roundw
          case rel => exact ⟨k + 1, hlt, by go_num, M2, t2, HL2.out, HB2.out, HPT2.out, HSH2.out, HKN2.out⟩
          case measure => simp [intOf]; omega
      · obtain rfl : k = l.length := by omega
        have hl80 : l.length ≤ 80 := h80
        have HR0 := Lib.hid (show RoundSt first w 0 wr from ⟨t, ⟨M, HL.out, HB.out⟩, RdT.of HPT.out HKN.out, fun b => Nat.le_trans (HSH.out.s b) hl80, fun b => Nat.le_trans (HSH.out.g b) (by omega)⟩)
        clear hbw
        go_wp2_with fail
        go_loopw [13] (fun i wr => ∃ r : Nat, r ≤ 66 ∧ i = .int .i64 (r : Int) ∧ RoundSt first w r wr) (fun i _ => 66 - (intOf i).toNat)
        case atStart => exact ⟨0, by omega, rfl, HR0.out⟩
        case round =>
          obtain ⟨r, hr, rfl, hrs⟩ := hrel
          by_cases hrl : r < 66
          · have dr : decide ((r : Int) < 66) = true := by simp; omega
            obtain ⟨t, hst, hrd, hls, hlg⟩ := hrs
            have HST := Lib.hid hst
            have HRD := Lib.hid hrd
            have HLS := Lib.hid hls
            have HLG := Lib.hid hlg
            clear hst hrd hls hlg
            go_wp2_with fail
            go_loopw [14] (fun i wx => ∃ k : Nat, k ≤ 100 ∧ i = .int .i64 (k : Int) ∧ AllSt w (t.both k) wx) (fun i _ => 100 - (intOf i).toNat)
            case atStart => exact ⟨0, by omega, rfl, HST.out⟩
            case round =>
              obtain ⟨k, hk, rfl, hs⟩ := hrel
              by_cases hkl : k < 100
              · have dk : decide ((k : Int) < 100) = true := by simp; omega
                obtain ⟨M, hl, hb⟩ := hs
                have HL := Lib.hid hl
                have HB := Lib.hid hb
                have hbx : wr.heap[w.heap.size]? = some (.cells (M.cells (t.both k)) 60 (0, 0)) := hl.x 0 rfl
                have y0 := (cell_of_block hbx 0).trans (cells_e M (t.both k) false)
                clear hl hb hbx
                go_wp2_with fail
                refine (tick_any (HL.out.e false)).mono ?_
                rintro e w6 ⟨rfl, he, ht⟩
                obtain ⟨M6, hl6, hb6⟩ := AllSt.setE HL.out HB.out he ht
                have HL6 := Lib.hid hl6
                have HB6 := Lib.hid hb6
                have hbx : w6.heap[w.heap.size]? = some (.cells (M6.cells ((t.both k).tick false)) 60 (0, 0)) := hl6.x 0 rfl
                have y1 := (cell_of_block hbx 1).trans (cells_e M6 ((t.both k).tick false) true)
                clear hl6 hb6 he ht y0 hbx
                go_wp2_with fail
                refine (tick_any (HL6.out.e true)).mono ?_
                rintro e w7 ⟨rfl, he, ht⟩
                have HS7 := Lib.hid (show AllSt w (t.both (k + 1)) w7 from AllSt.setE HL6.out HB6.out he ht)
                clear he ht y1
                go_wp2_with fail
                go_roundw
                case rel => exact ⟨k + 1, hkl, by go_num, HS7.out⟩
                case measure => simp [intOf]; omega
              · have hk100 : k = 100 := by omega
                have HS := Lib.hid (show AllSt w (t.both 100) wr from by rw [← hk100]; exact hs)
                have dk : decide ((k : Int) < 100) = false := by simp; omega
                clear hs hk100 hkl
                go_wp2_with fail
                go_loopw [15] (fun i wx => ∃ m : Nat, m ≤ 2 ∧ i = .int .i64 (m : Int) ∧ AllSt w (t.part m) wx ∧ ∀ b, ((t.part m).g b).length ≤ 80 + 2000 * r + 1000 * m) (fun i _ => 2 - (intOf i).toNat)
                case atStart => exact ⟨0, by omega, rfl, by rw [T2.part_zero]; exact HS.out, fun b => by rw [T2.part_zero, both_g]; have := HLG.out b; omega⟩
                case round =>
                  obtain ⟨m, hm, rfl, hs, hg⟩ := hrel
                  by_cases hml : m < 2
                  · have dm : decide ((m : Int) < 2) = true := by simp; omega
                    obtain ⟨me, hme⟩ : ∃ me : Bool, me.toNat = m := ⟨decide (m = 1), by have : m = 0 ∨ m = 1 := by omega
                                                                                        rcases this with rfl | rfl <;> rfl⟩
                    obtain ⟨rr, hrr⟩ : ∃ rr, 1 - m = rr := ⟨_, rfl⟩
                    have hne : (!me).toNat = rr := by rw [← hrr, ← hme]; cases me <;> rfl
                    have hstep := T2.part_step t me
                    rw [hme] at hstep
                    have HSTEP := Lib.hid hstep
                    clear hstep
                    generalize t.part m = u at *
                    generalize hQ : t.part (m + 1) = u' at *
                    have HQ := Lib.hid hQ
                    obtain ⟨M, hl, hb⟩ := hs
                    have HL := Lib.hid hl
                    have HB := Lib.hid hb
                    have HG := Lib.hid hg
                    have hbx : wr.heap[w.heap.size]? = some (.cells (M.cells u) 60 (0, 0)) := hl.x 0 rfl
                    have y0 := (cell_of_block hbx m).trans (show (M.cells u)[m]? = some (.pointer (some ⟨M.p me, 0, none⟩)) from by rw [← hme]; exact cells_e M u me)
                    have m0 : (0 : Int) ≤ (m : Int) := by omega
                    have m1 : (m : Int) < 2 := by omega
                    have hmr : 1 - (m : Int) = (rr : Int) := by omega
                    have r0 : (0 : Int) ≤ (rr : Int) := by omega
                    have r1 : (rr : Int) < 2 := by omega
                    have hw1 : IntKind.i64.wrap (rr : Int) = (rr : Int) := IntWalk.i64_in _ (by omega)
                    obtain ⟨fs, hfs⟩ : ∃ fs, (u.e me).goes = fs := ⟨_, rfl⟩
                    have HFS := Lib.hid hfs
                    have hfl : fs.length ≤ 1000 := by rw [← hfs]; exact goes_le ((hl.e me).ok)
                    have HNE := Lib.hid hne
                    clear hl hb hg hbx hfs hQ hrr hne
                    go_wp2_with fail
                    refine (out_any (HL.out.e me)).mono ?_
                    rw [HFS.out]
                    rintro e w6 ⟨A5, c5, G5, rfl, hv5, hG5, he, ht⟩
                    have HF0 := Lib.hid (show AllFr w (u.sofar me fs 0) G5 A5 c5 fs w6 from AllFr.start HL.out HB.out he ht hv5 hG5)
                    clear hv5 hG5 he ht y0
                    go_wp2_with fail
                    go_loopw [17] (fun i wx => ∃ k : Nat, k ≤ fs.length ∧ i = .int .i64 (k : Int) ∧ AllFr w (u.sofar me fs k) G5 A5 c5 fs wx) (fun i _ => fs.length - (intOf i).toNat)
                    case atStart => exact ⟨0, by omega, rfl, HF0.out⟩
                    case round =>
                      obtain ⟨k, hk, rfl, hs⟩ := hrel
                      by_cases hkl : k < fs.length
                      · have hlt := hkl
                        have dk : decide ((k : Int) < (fs.length : Int)) = true := by simp; omega
                        have hf := List.getElem?_eq_getElem hkl
                        generalize fs[k] = f at *
                        have HF := Lib.hid hf
                        have HSK := T2.sofar_step u me fs hf
                        have hgl := T2.sofar_g u me fs _ HG.out k hk (!me)
                        generalize u.sofar me fs k = z at *
                        obtain ⟨z', hz'⟩ : ∃ z', u.sofar me fs (k + 1) = z' := ⟨_, rfl⟩
                        rw [hz'] at HSK
                        have HSK := Lib.hid HSK
                        have HZ := Lib.hid hz'
                        clear hz'
                        obtain ⟨M3, hl, hb⟩ := hs
                        have hvf := vec_frame (hl.x 1 rfl)
                        rcases hvf with e0 | ⟨g5, o5, hA5, _, _, hfr⟩
                        · rw [e0] at hf; cases hf
                        subst hA5
                        obtain ⟨C, hC⟩ : ∃ C, M3.cells z = C := ⟨_, rfl⟩
                        rw [hC] at hl
                        have HC := Lib.hid hC
                        have HL3 := Lib.hid hl
                        have HB3 := Lib.hid hb
                        have HCE := Lib.hid (show C[rr]? = some (.pointer (some ⟨M3.p (!me), 0, none⟩)) from by rw [← HC.out, ← HNE.out]; exact cells_e M3 z (!me))
                        have HCG := Lib.hid (show C[6 + rr]? = some (sl (M3.g (!me)) (z.g (!me)).length) from by rw [← HC.out, ← HNE.out]; exact cells_g M3 z (!me))
                        have k0 : (0 : Int) ≤ (k : Int) := by omega
                        have k1 : (k : Int) < (fs.length : Int) := by omega
                        obtain ⟨td, htd⟩ : ∃ td, (z.e (!me)).told f = td := ⟨_, rfl⟩
                        obtain ⟨nx, hnx⟩ : ∃ nx, (z.e (!me)).isNext f = nx := ⟨_, rfl⟩
                        have HTD := Lib.hid htd
                        have HNX := Lib.hid hnx
                        have hgl2 : (z.g (!me)).length ≤ 200000 := by omega
                        clear hl hb hC hf hfr htd hnx hkl hgl
                        go_wp2_with fail
                        refine' wp_flow [only 0 _, only 1 _, only 2 _, only 3 _, only 4 (.pointer (some ⟨M3.p (!me), 0, none⟩)), only 5 _, only 6 _, only 7 (.pointer (some ⟨g5, o5 + k * 5, none⟩)), only 8 (.agg #[.int .i64 f.kind, .int .i64 f.epoch, .int .u64 f.seq, .int .u64 f.ack, .string f.body]), (fun us v => us 9 = .tuple #[.string td, .bool nx] ∧ ∃ F', Lay w.heap.size { M3 with F := upB M3.F (!me) F' } { z with e := upB z.e (!me) ((z.e (!me)).taken f) } [boxT w.heap.size C 60, vecT G5 5 (some ⟨g5, o5, none⟩) fs.length c5 (fs.flatMap Fr.cells)] v ∧ Below w.heap.size w v), only 10 (.tuple #[.string td, .bool nx]), only 11 (.string td), only 12 (.bool nx), only 13 (.string td), only 14 (.bool nx), (fun _ v => Lay w.heap.size M3 z [boxT w.heap.size C 60, vecT G5 5 (some ⟨g5, o5, none⟩) fs.length c5 (fs.flatMap Fr.cells)] v ∧ Below w.heap.size w v)] (fun v => v.heap[w.heap.size]? = some (.cells C 60 (0, 0))) [[], [0], [], [1, 2], [3], [], [], [5, 6], [7, 15], [4, 8, 15], [9], [10], [10], [11], [12]] [[], [], [], [], [], [], [], [], [], [15], [], [], [], [], []] [[], [], [], [], [], [], [], [], [], [], [], [], [], [], []] [[15], [15], [15], [15], [15], [15], [15], [15], [15], [], [9], [9], [9], [9], [9]] [9, 15] [0, 1, 0, 7, 15, 0, 0, 96, 224, 511, 1023, 2047, 2047, 4095, 6143] _ (fun us => ?hfr) (by kernel_rfl) (by kernel_rfl) (by kernel_rfl) ⟨only_still _, only_still _, only_still _, only_still _, only_still _, only_still _, only_still _, only_still _, only_still _, trivial, only_still _, only_still _, only_still _, only_still _, only_still _, trivial, trivial⟩ (HL3.out.x 0 rfl) (by simp) (⟨HL3.out.after (below_drewN (Below.refl _ _) 1), below_drewN HB3.out 1⟩) ?hst ?hla
                        case hfr => (simp only [List.cons_append, List.nil_append, putAll, Act.put, List.setIfInBounds_toArray, List.set_cons_zero, List.set_cons_succ, Nat.reduceAdd]; rfl)
                        case hst =>
                          refine ⟨?_, ?_, ?_, ?_, ?_, ?_, ?_, ?_, ?_, ?_, ?_, ?_, ?_, ?_, ?_, trivial⟩
                          · intro us v hR hn ho K hK
                            clear ho
                            have y0 := (cell_of_block hR rr).trans HCE.out
                            rw [if_pos (by rfl)]
                            go_simp
                            refine hK _ _ _ (by simp only [Act.put, List.setIfInBounds_toArray, List.set_cons_zero, List.set_cons_succ, Nat.reduceAdd] <;> rfl) ?_ hR ⟨fun h => h, trivial⟩
                            refine only_mk (v := v) ?_
                            with_reducible rfl
                          · intro us v hR hn ho K hK
                            obtain ⟨n0, -⟩ := hn
                            have n0 : us 0 = _ := n0
                            clear ho
                            have y0 := (cell_of_block hR rr).trans HCE.out
                            rw [if_pos (by rfl)]
                            go_simp
                            refine hK _ _ _ (by simp only [Act.put, List.setIfInBounds_toArray, List.set_cons_zero, List.set_cons_succ, Nat.reduceAdd, n0] <;> rfl) ?_ hR ⟨fun h => h, trivial⟩
                            refine only_mk (v := v) ?_
                            with_reducible rfl
                          · intro us v hR hn ho K hK
                            clear ho
                            have y0 := (cell_of_block hR rr).trans HCE.out
                            rw [if_pos (by rfl)]
                            go_simp
                            refine hK _ _ _ (by simp only [Act.put, List.setIfInBounds_toArray, List.set_cons_zero, List.set_cons_succ, Nat.reduceAdd] <;> rfl) ?_ hR ⟨fun h => h, trivial⟩
                            refine only_mk (v := v) ?_
                            with_reducible rfl
                          · intro us v hR hn ho K hK
                            obtain ⟨n1, n2, -⟩ := hn
                            have n1 : us 1 = _ := n1
                            have n2 : us 2 = _ := n2
                            clear ho
                            have y0 := (cell_of_block hR rr).trans HCE.out
                            rw [if_pos (by rfl)]
                            go_simp
                            refine hK _ _ _ (by simp only [Act.put, List.setIfInBounds_toArray, List.set_cons_zero, List.set_cons_succ, Nat.reduceAdd, n1, n2] <;> rfl) ?_ hR ⟨fun h => h, trivial⟩
                            refine only_mk (v := v) ?_
                            with_reducible rfl
                          · intro us v hR hn ho K hK
                            obtain ⟨n3, -⟩ := hn
                            have n3 : us 3 = _ := n3
                            clear ho
                            have y0 := (cell_of_block hR rr).trans HCE.out
                            rw [if_pos (by rfl)]
                            go_simp
                            refine hK _ _ _ (by simp only [Act.put, List.setIfInBounds_toArray, List.set_cons_zero, List.set_cons_succ, Nat.reduceAdd, n3] <;> rfl) ?_ hR ⟨fun h => h, trivial⟩
                            refine only_mk (v := v) ?_
                            with_reducible rfl
                          · intro us v hR hn ho K hK
                            clear ho
                            have y0 := (cell_of_block hR rr).trans HCE.out
                            rw [if_pos (by rfl)]
                            go_simp
                            refine hK _ _ _ (by simp only [Act.put, List.setIfInBounds_toArray, List.set_cons_zero, List.set_cons_succ, Nat.reduceAdd] <;> rfl) ?_ hR ⟨fun h => h, trivial⟩
                            refine only_mk (v := v) ?_
                            with_reducible rfl
                          · intro us v hR hn ho K hK
                            clear ho
                            have y0 := (cell_of_block hR rr).trans HCE.out
                            rw [if_pos (by rfl)]
                            go_simp
                            refine hK _ _ _ (by simp only [Act.put, List.setIfInBounds_toArray, List.set_cons_zero, List.set_cons_succ, Nat.reduceAdd] <;> rfl) ?_ hR ⟨fun h => h, trivial⟩
                            refine only_mk (v := v) ?_
                            with_reducible rfl
                          · intro us v hR hn ho K hK
                            obtain ⟨n5, n6, -⟩ := hn
                            have n5 : us 5 = _ := n5
                            have n6 : us 6 = _ := n6
                            clear ho
                            have y0 := (cell_of_block hR rr).trans HCE.out
                            rw [if_pos (by rfl)]
                            go_simp
                            refine hK _ _ _ (by simp only [Act.put, List.setIfInBounds_toArray, List.set_cons_zero, List.set_cons_succ, Nat.reduceAdd, n5, n6] <;> rfl) ?_ hR ⟨fun h => h, trivial⟩
                            refine only_mk (v := v) ?_
                            with_reducible rfl
                          · intro us v hR hn ho K hK
                            obtain ⟨n7, ns, -⟩ := hn
                            have n7 : us 7 = _ := n7
                            clear ho
                            have y0 := (cell_of_block hR rr).trans HCE.out
                            have hfr := frame_in (ns.1.x 1 rfl) rfl HF.out
                            obtain ⟨z0, z1, z2, z3, z4⟩ := hfr
                            rw [if_pos (by rfl)]
                            go_simp
                            refine hK _ _ _ (by simp only [Act.put, List.setIfInBounds_toArray, List.set_cons_zero, List.set_cons_succ, Nat.reduceAdd, n7] <;> rfl) ?_ hR ⟨fun h => h, trivial⟩
                            refine only_mk (v := v) ?_
                            with_reducible rfl
                          · intro us v hR hn ho K hK
                            obtain ⟨n4, n8, ns, -⟩ := hn
                            have n4 : us 4 = _ := n4
                            have n8 : us 8 = _ := n8
                            clear ho
                            have y0 := (cell_of_block hR rr).trans HCE.out
                            obtain ⟨l1, l2⟩ := ns
                            have hBv : w.heap.size ≤ v.heap.size := l2.size
                            rw [if_pos (by rfl)]
                            clear y0
                            go_simp
                            refine (take_any (l1.e (!me)) f).mono ?_
                            rw [HTD.out, HNX.out]
                            rintro e v' ⟨rfl, he, ht⟩
                            dsimp only
                            have hl := l1.setE (me := !me) hBv he ht
                            exact hK _ _ _ (by simp only [Act.put, List.setIfInBounds_toArray, List.set_cons_zero, List.set_cons_succ, Nat.reduceAdd, n4, n8] <;> rfl) ⟨rfl, _, hl, l2.trans (l1.underE (me := !me) hBv ht)⟩ (hl.x 0 rfl) trivial
                          · intro us v hR hn ho K hK
                            obtain ⟨n9, -⟩ := hn
                            clear ho
                            have y0 := (cell_of_block hR rr).trans HCE.out
                            obtain ⟨e9, r9⟩ := n9
                            rw [if_pos (by rfl)]
                            go_simp
                            refine hK _ _ _ (by simp only [Act.put, List.setIfInBounds_toArray, List.set_cons_zero, List.set_cons_succ, Nat.reduceAdd, e9] <;> rfl) ?_ hR ⟨fun h => h, trivial⟩
                            exact only_mk (v := v) rfl
                          · intro us v hR hn ho K hK
                            obtain ⟨n10, -⟩ := hn
                            have n10 : us 10 = _ := n10
                            clear ho
                            have y0 := (cell_of_block hR rr).trans HCE.out
                            rw [if_pos (by rfl)]
                            go_simp
                            refine hK _ _ _ (by simp only [Act.put, List.setIfInBounds_toArray, List.set_cons_zero, List.set_cons_succ, Nat.reduceAdd, n10] <;> rfl) ?_ hR ⟨fun h => h, trivial⟩
                            refine only_mk (v := v) ?_
                            with_reducible rfl
                          · intro us v hR hn ho K hK
                            obtain ⟨n10, -⟩ := hn
                            have n10 : us 10 = _ := n10
                            clear ho
                            have y0 := (cell_of_block hR rr).trans HCE.out
                            rw [if_pos (by rfl)]
                            go_simp
                            refine hK _ _ _ (by simp only [Act.put, List.setIfInBounds_toArray, List.set_cons_zero, List.set_cons_succ, Nat.reduceAdd, n10] <;> rfl) ?_ hR ⟨fun h => h, trivial⟩
                            refine only_mk (v := v) ?_
                            with_reducible rfl
                          · intro us v hR hn ho K hK
                            obtain ⟨n11, -⟩ := hn
                            have n11 : us 11 = _ := n11
                            clear ho
                            have y0 := (cell_of_block hR rr).trans HCE.out
                            rw [if_pos (by rfl)]
                            go_simp
                            refine hK _ _ _ (by simp only [Act.put, List.setIfInBounds_toArray, List.set_cons_zero, List.set_cons_succ, Nat.reduceAdd, n11] <;> rfl) ?_ hR ⟨fun h => h, trivial⟩
                            refine only_mk (v := v) ?_
                            with_reducible rfl
                          · intro us v hR hn ho K hK
                            obtain ⟨n12, -⟩ := hn
                            have n12 : us 12 = _ := n12
                            clear ho
                            have y0 := (cell_of_block hR rr).trans HCE.out
                            rw [if_pos (by rfl)]
                            go_simp
                            refine hK _ _ _ (by simp only [Act.put, List.setIfInBounds_toArray, List.set_cons_zero, List.set_cons_succ, Nat.reduceAdd, n12] <;> rfl) ?_ hR ⟨fun h => h, trivial⟩
                            refine only_mk (v := v) ?_
                            with_reducible rfl
                        case hla =>
                          intro us v hR hl
                          obtain ⟨n0, n1, n2, n3, n4, n5, n6, n7, n8, n9, n10, n11, n12, n13, n14, -⟩ := need_last hl [0, 1, 2, 3, 4, 5, 6, 7, 8, 9, 10, 11, 12, 13, 14] (by kernel_rfl)
                          have n0 : us 0 = _ := n0
                          have n1 : us 1 = _ := n1
                          have n2 : us 2 = _ := n2
                          have n3 : us 3 = _ := n3
                          have n4 : us 4 = _ := n4
                          have n5 : us 5 = _ := n5
                          have n6 : us 6 = _ := n6
                          have n7 : us 7 = _ := n7
                          have n8 : us 8 = _ := n8
                          have n10 : us 10 = _ := n10
                          have n11 : us 11 = _ := n11
                          have n12 : us 12 = _ := n12
                          have n13 : us 13 = _ := n13
                          have n14 : us 14 = _ := n14
                          have y0 := (cell_of_block hR rr).trans HCE.out
                          simp only [n0, n1, n2, n3, n4, n5, n6, n7, n8, n10, n11, n12, n13, n14]
                          clear hl n0 n1 n2 n3 n4 n5 n6 n7 n8 n10 n11 n12 n13 n14
                          obtain ⟨e9, F', hl9, hb9⟩ := n9
                          simp only [e9]
                          have HL9 := Lib.hid hl9
                          have HB9 := Lib.hid hb9
                          clear e9 hl9 hb9 hR y0
                          cases nx
                          · have HREL := Lib.hid (show AllFr w (u.sofar me fs (k + 1)) G5 (some ⟨g5, o5, none⟩) c5 fs v from by
                              rw [HZ.out]
                              obtain ⟨M', h'⟩ := all_e HC.out (show z' = { z with e := upB z.e (!me) ((z.e (!me)).taken f) } from by rw [HSK.out]; unfold T2.take; rw [HNX.out]; simp [upB_id]) HL9.out
                              exact ⟨M', h', HB9.out⟩)
                            go_wp2_with fail
                            go_roundw
                            case rel => exact ⟨k + 1, hlt, by go_num, HREL.out⟩
                            case measure => simp [intOf]; omega
                          · obtain ⟨ys, hys⟩ : ∃ ys, z.g (!me) ++ [td] = ys := ⟨_, rfl⟩
                            have HYS := Lib.hid hys
                            have HYL := Lib.hid (show (z.g (!me)).length + 1 = ys.length from by rw [← hys]; simp)
                            have HYM := Lib.hid (show (z.g (!me)).map Value.string ++ [.string td] = ys.map .string from by rw [← hys]; simp)
                            have hbx : v.heap[w.heap.size]? = some (.cells C 60 (0, 0)) := HL9.out.x 0 rfl
                            have y0 := (cell_of_block hbx (6 + rr)).trans HCG.out
                            unfold sl at y0
                            have hva : Below v.heap.size v (v.alloc (.cells #[.string td] 9)) := (Below.refl _ _).alloc (Nat.le_refl _) _
                            have HLA := Lib.hid (HL9.out.after hva)
                            have HBA := Lib.hid (HB9.out.trans (hva.mono HB9.out.size))
                            have HVA := Lib.hid (show Vec (v.alloc (.cells #[.string td] 9)) (M3.g (!me)).F 1 (M3.g (!me)).A (z.g (!me)).length (M3.g (!me)).c ((z.g (!me)).map .string) from (HL9.out.after hva).g (!me))
                            clear hys hbx hva
                            go_wp2_with (at_builtin; (refine wpList_append_vec _ (by rfl) _ _ _ _ (by rfl) 9 i0 _ 1 16 Try.underlying23 hi0 hz0 hz1 hz2 rfl (M3.g (!me)).F (M3.g (!me)).A (z.g (!me)).length (M3.g (!me)).c ((z.g (!me)).map .string) (.slice (some ⟨v.heap.size, 0, none⟩) 1 1) 1 [.string td] (by rfl) (by rfl) (by exact HVA.out) (by exact src_new _ Try.underlying23 [.string td] 1 1 1 rfl (by simp [Value.oneCell']) _ (heap_alloc_new v _)) (by unfold maxLen; omega) (by omega) ?_; intro v6 w6 happ; rw [HYL.out, HYM.out] at happ; obtain ⟨F6, A6, c6, rfl, hv6, ht6⟩ := happ.all; have hl6 := HLA.out.setG (me := !me) HBA.out.size (a := ⟨A6, c6, F6⟩) (l := ys) hv6 ht6; have hb6 := HBA.out.trans (HLA.out.underG (me := !me) HBA.out.size ht6); have hbx6 : w6.heap[w.heap.size]? = some (.cells C 60 (0, 0)) := hl6.x 0 rfl; have y6 := (cell_of_block hbx6 (6 + rr)).trans HCG.out; have f6 := frozen_of_block hbx6 (6 + rr); unfold sl at y6; have HL6 := Lib.hid hl6; have HB6 := Lib.hid hb6; clear happ hl6 hb6 hv6 ht6 hbx6 y0))
                            obtain ⟨k1', k2'⟩ := HL6.out.box HB6.out.size 0 rfl (6 + rr) (sl ⟨A6, c6, F6⟩ ys.length)
                            have HREL := Lib.hid (show AllFr w (u.sofar me fs (k + 1)) G5 (some ⟨g5, o5, none⟩) c5 fs (w6.setCell ⟨w.heap.size, 6 + rr, none⟩ (.slice A6 ys.length c6)) from by
                              rw [HZ.out]
                              obtain ⟨M', h'⟩ := all_g HNE.out HC.out (show z' = { z with e := upB z.e (!me) ((z.e (!me)).taken f), g := upB z.g (!me) ys } from by rw [HSK.out]; unfold T2.take; rw [HNX.out, HTD.out, if_pos rfl, HYS.out]) k1'
                              exact ⟨M', h', HB6.out.trans k2'⟩)
                            clear k1' k2'
                            go_wp2_with fail
                            go_roundw
                            case rel => exact ⟨k + 1, hlt, by go_num, HREL.out⟩
                            case measure => simp [intOf]; omega
                      · obtain rfl : k = fs.length := by omega
                        obtain ⟨M3, hl, hb⟩ := hs
                        have hpart : AllSt w u' wr := ⟨M3, by rw [HSTEP.out, ← T2.sofar_all, HFS.out]; exact hl.less, hb⟩
                        have hgs : ∀ b, (u'.g b).length ≤ 80 + 2000 * r + 1000 * (m + 1) := fun b => by
                          rw [HSTEP.out]
                          have := over_g u me ((HL.out.e me).ok) _ HG.out b
                          omega
                        have HP := Lib.hid hpart
                        have HGS := Lib.hid hgs
                        have HREL := Lib.hid (show AllSt w (t.part (m + 1)) wr ∧ ∀ b, ((t.part (m + 1)).g b).length ≤ 80 + 2000 * r + 1000 * (m + 1) from by rw [HQ.out]; exact ⟨hpart, hgs⟩)
                        clear hl hb hpart hgs
                        go_wp2_with fail
                        go_roundw
                        case rel => exact ⟨m + 1, by omega, by go_num, HREL.out⟩
                        case measure => simp [intOf]; omega
                  · obtain rfl : m = 2 := by omega
                    have HN := Lib.hid (show RoundSt first w (r + 1) wr from ⟨t.rnd, by rw [← T2.part_two]; exact hs, HRD.out.step, fun b => by rw [T2.rnd_s]; exact HLS.out b, fun b => by have := hg b; rw [T2.part_two] at this; omega⟩)
                    clear hs hg
                    go_wp2_with fail
                    go_roundw
                    case rel => exact ⟨r + 1, hrl, by go_num, HN.out⟩
                    case measure => simp [intOf]; omega
          · obtain rfl : r = 66 := by omega
            obtain ⟨t, ⟨M, hl, hb⟩, hrd, hls, hlg⟩ := hrs
            obtain ⟨q1, q2, q3, q4⟩ := hrd.law
            have hbx : wr.heap[w.heap.size]? = some (.cells (M.cells t) 60 (0, 0)) := hl.x 0 rfl
            have y0 := cell_of_block hbx 0
            have y1 := cell_of_block hbx 1
            have y4 := cell_of_block hbx 4
            have y5 := cell_of_block hbx 5
            have y6 := cell_of_block hbx 6
            have y7 := cell_of_block hbx 7
            simp [Mem2.cells, sl] at y0 y1 y4 y5 y6 y7
            have hg1 := hl.g true
            have hg0 := hl.g false
            rw [q1] at hg1 y7
            rw [q2] at hg0 y6
            have HG1 := Lib.hid hg1
            have HG0 := Lib.hid hg0
            have HL := Lib.hid hl
            have HB := Lib.hid hb
            have HLS := Lib.hid hls
            have HQ3 := Lib.hid q3
            have HQ4 := Lib.hid q4
            clear hbx hg1 hg0 hl hb hls hlg hrd q1 q2 q3 q4
            go_wp2_with fail
            refine (texts_is HG1.out (HL.out.s false) (by have := HLS.out false; omega)).mono ?_
            rintro e w6 ⟨rfl, n1, rfl⟩
            go_wp2_with fail
            refine (texts_is (HG0.out.drewN n1) ((HL.out.s true).drewN n1) (by have := HLS.out true; omega)).mono ?_
            rintro e w7 ⟨rfl, n2, rfl⟩
            go_wp2_with fail
            refine (waiting_any ((HL.out.e false).drewN (n1 + n2))).mono ?_
            rintro e w8 ⟨rfl, rfl⟩
            rw [HQ3.out]
            go_wp2_with fail
            refine (waiting_any ((HL.out.e true).drewN (n1 + n2))).mono ?_
            rintro e w9 ⟨rfl, rfl⟩
            rw [HQ4.out]
            go_wp2_with fail
            go_ret
            exact ⟨rfl, below_drewN HB.out (n1 + n2)⟩
end Go.Proofs.Ytblaanohidldpaa.Link
