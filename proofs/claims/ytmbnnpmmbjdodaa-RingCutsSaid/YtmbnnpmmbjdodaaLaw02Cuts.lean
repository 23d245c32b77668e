/- Layer 2: the walk of RingCuts. Conditions: the slice lies in memory that came in. -/
import Derived.Test.YtmbnnpmmbjdodaaLaw02Again
import Derived.Test.YtmbnnpmmbjdodaaVec
import Derived.Test.YtmbnnpmmbjdodaaFlow
import Derived.Deep.RegionHeld3
namespace Go.Proofs.Ytmbnnpmmbjdodaa
set_option linter.unusedSimpArgs false
set_option linter.unusedVariables false
open Go.RowKit

/-- the block of a slice -/
def blk : Value → Option Nat
  | .slice (some ⟨g, _, _⟩) _ _ => some g
  | _ => none
theorem vec_blk {w : World} {F : List Nat} {size n c : Nat} {A : Option Addr} {cs : List Value} {g : Nat} (h : Vec w F size A n c cs) (e : blk (.slice A n c) = some g) : F = [g] ∧ g < w.heap.size := by
  rcases h.place with ⟨rfl, _, _⟩ | ⟨g', off, rfl, rfl, hg, _⟩
  · cases e
  · injection e with e; subst e; exact ⟨rfl, hg⟩
theorem vec_not {w : World} {F : List Nat} {size n c : Nat} {A : Option Addr} {cs : List Value} {k : Nat} (h : Vec w F size A n c cs) (hk : k ∈ F) : blk (.slice A n c) = some k := by
  rcases h.place with ⟨_, _, rfl⟩ | ⟨g, off, rfl, rfl, _⟩
  · cases hk
  · simp at hk; subst hk; rfl
theorem vec_sl {w : World} {F : List Nat} {n c : Nat} {A : Option Addr} {cs : List Value} (h : Vec w F 1 A n c cs) : Sl w 0 w.heap.size 1 A n cs := by
  refine ⟨h.len, fun hn => ?_⟩
  rcases h.place with ⟨_, rfl, _⟩ | ⟨g, off, rfl, rfl, hg, hr, _⟩
  · have := h.le; omega
  · exact ⟨g, off, rfl, Nat.zero_le _, hg, fun j u hj => hr j u hj⟩
theorem sl_src {P : Program} {w : World} {lo hi n c : Nat} {a : Addr} {cs : List Value} {tx e' : TypeId} (hk : P.underlying tx = some (.slice e')) (h : Sl w lo hi 1 (some a) n cs) (h1 : ∀ u ∈ cs, u.oneCell' = true) : Src P 1 tx (.slice (some a) n c) n cs w := by
  refine Src.ofSlice w hk a n c cs h.1 (fun j u hj => ?_) h1
  have hl : j < cs.length := (List.getElem?_eq_some_iff.1 hj).1
  have hn := h.1
  obtain ⟨bl, off, e, _, _, hc⟩ := h.2 (by omega)
  injection e with e; subst e
  rw [Addr.add_mid]; exact hc j u hj
/-- the rows that the last test makes: all things (11), the row of nothing (12), what is ahead of the one that was cut (16): in blocks of their own -/
structure CutJ (B : Nat) (x11 x12 x16 : Value) (v : World) : Prop where
  b11 : ∀ g, blk x11 = some g → B ≤ g ∧ g < v.heap.size
  b12 : ∀ g, blk x12 = some g → B ≤ g ∧ g < v.heap.size
  b16 : ∀ g, blk x16 = some g → B ≤ g ∧ g < v.heap.size
  ap : ∀ g, blk x11 = some g → blk x12 ≠ some g ∧ blk x16 ≠ some g
section
variable {B : Nat} {x11 x12 x16 : Value} {v v' : World} {y : Value}
theorem CutJ.start (h11 : x11 = undef) (h12 : x12 = undef) (h16 : x16 = undef) : CutJ B x11 x12 x16 v :=
  ⟨fun g h => (by rw [h11] at h; cases h), fun g h => (by rw [h12] at h; cases h), fun g h => (by rw [h16] at h; cases h), fun g h => (by rw [h11] at h; cases h)⟩
theorem CutJ.size (h : CutJ B x11 x12 x16 v) (hs : v.heap.size ≤ v'.heap.size) : CutJ B x11 x12 x16 v' :=
  ⟨fun g e => ⟨(h.b11 g e).1, Nat.lt_of_lt_of_le (h.b11 g e).2 hs⟩, fun g e => ⟨(h.b12 g e).1, Nat.lt_of_lt_of_le (h.b12 g e).2 hs⟩, fun g e => ⟨(h.b16 g e).1, Nat.lt_of_lt_of_le (h.b16 g e).2 hs⟩, h.ap⟩
theorem CutJ.at11 (h : CutJ B x11 x12 x16 v) (hB : B ≤ v.heap.size) (hs : v.heap.size ≤ v'.heap.size) (hy : ∀ g, blk y = some g → v.heap.size ≤ g ∧ g < v'.heap.size) : CutJ B y x12 x16 v' := by
  have h' := h.size hs
  refine ⟨fun g e => ⟨Nat.le_trans hB (hy g e).1, (hy g e).2⟩, h'.b12, h'.b16, fun g e => ⟨fun e2 => ?_, fun e2 => ?_⟩⟩
  · have := (hy g e).1; have := (h.b12 g e2).2; omega
  · have := (hy g e).1; have := (h.b16 g e2).2; omega
theorem CutJ.at12 (h : CutJ B x11 x12 x16 v) (hB : B ≤ v.heap.size) (hs : v.heap.size ≤ v'.heap.size) (hy : ∀ g, blk y = some g → v.heap.size ≤ g ∧ g < v'.heap.size) : CutJ B x11 y x16 v' := by
  have h' := h.size hs
  refine ⟨h'.b11, fun g e => ⟨Nat.le_trans hB (hy g e).1, (hy g e).2⟩, h'.b16, fun g e => ⟨fun e2 => ?_, (h.ap g e).2⟩⟩
  have := (hy g e2).1; have := (h.b11 g e).2; omega
theorem CutJ.at16 (h : CutJ B x11 x12 x16 v) (hB : B ≤ v.heap.size) (hs : v.heap.size ≤ v'.heap.size) (hy : ∀ g, blk y = some g → (blk x12 = some g ∨ v.heap.size ≤ g) ∧ g < v'.heap.size) : CutJ B x11 x12 y v' := by
  have h' := h.size hs
  refine ⟨h'.b11, h'.b12, fun g e => ⟨?_, (hy g e).2⟩, fun g e => ⟨(h.ap g e).1, fun e2 => ?_⟩⟩
  · rcases (hy g e).1 with e1 | e1
    · exact (h.b12 g e1).1
    · omega
  · rcases (hy g e2).1 with e1 | e1
    · exact (h.ap g e).1 e1
    · have := (h.b11 g e).2; omega
end
/-- what stands meanwhile: the ring, the slice that came in -/
structure CutR (w0 : World) (p q B : Nat) (A : Option Addr) (ys zs : List Int) (v : World) : Prop where
  ring : RingI.Has v p q 100 zs
  sl : Sl v 0 w0.heap.size 1 A ys.length (ys.map mkI)
  bel : Below w0.heap.size w0 v
  big : B ≤ v.heap.size
section
variable {w0 : World} {p q B : Nat} {A : Option Addr} {ys zs : List Int} {v v' : World}
theorem CutR.below (h : CutR w0 p q B A ys zs v) (hb : Below v.heap.size v v') : CutR w0 p q B A ys zs v' := by
  have := h.bel.size
  exact ⟨h.ring.below hb h.ring.p_lt h.ring.q_lt, h.sl.below hb (by omega), h.bel.trans (hb.mono (by omega)), Nat.le_trans h.big hb.size⟩
theorem CutR.kept {L : List Nat} (h : CutR w0 p q B A ys zs v) (hk : Kept L v v') (hL : ∀ k, k ∈ L → B ≤ k) (hp : p < B) (hq : q < B) (hw : w0.heap.size ≤ B) : CutR w0 p q B A ys zs v' := by
  have hb : Below B v v' := hk.below h.big hL
  exact ⟨h.ring.below hb hp hq, h.sl.below hb hw, h.bel.trans (hb.mono hw), Nat.le_trans h.big hb.size⟩
end

theorem cut_list {ys : List Int} {k : Nat} (hk : k < ys.length) : [] ++ ys.take k ++ ys.drop (k + 1) = RingI.cutted ys (k : Int) ∧ RingI.got ys (k : Int) = ys[k] ∧ RingI.has ys (k : Int) = true := by
  have h1 : RingI.has ys (k : Int) = true := by unfold RingI.has; simp; omega
  refine ⟨?_, ?_, h1⟩
  · unfold RingI.cutted
    rw [h1, if_pos rfl, Int.toNat_natCast, List.eraseIdx_eq_take_drop_succ, List.nil_append]
  · unfold RingI.got
    rw [if_pos (by omega), Int.toNat_natCast, List.getD_eq_getElem?_getD, List.getElem?_eq_getElem hk]; rfl
theorem cuts_empty (w : World) : Vec (w.alloc (.cells #[] 3)) [w.heap.size] 1 (some ⟨w.heap.size, 0, none⟩) 0 0 [] := by
  have h := Vec.of_new (w := w.alloc (.cells #[] 3)) (e := 3) (g := w.heap.size) #[] 1 0 0 (Nat.le_refl _) (Nat.zero_le _) (by simp) (heap_alloc_new w _)
  simpa using h
set_option maxRecDepth 100000 in
set_option maxHeartbeats 8000000 in
theorem cuts_walk (A : Option Addr) (c : Nat) (ys : List Int) (at_ : Int) (w : World) (hA : Sl w 0 w.heap.size 1 A ys.length (ys.map mkI)) (hc1 : ys.length ≤ c) (hc2 : c ≤ maxLen) :
    Calls Try.prog 6 #[.slice A ys.length c, .int .i64 at_] w fun e w' => e = .returned (.bool true) ∧ Below w.heap.size w w' := by
  unfold maxLen at hc2
  have hL : ∀ x, x ∈ [w.heap.size + 1, w.heap.size] → w.heap.size ≤ x := by simp
  have HL := Lib.hid hL
  clear hL
  obtain ⟨i0, hi0, hz0, hz1, hz2⟩ := info_parts RingI.elem_info
  by_cases h60 : ys.length ≤ 60
  · have hd1 : decide (60 < (ys.length : Int)) = false := by simp; omega
    go_enter Try.func6, Try.ntmps6
    go_wp2_with fail
    refine (RingI.new_has 100 _).mono ?_
    rintro e w1 ⟨rfl, h1, hb1⟩
    rw [show RingI.clamp 100 = 100 from by decide] at h1
    go_wp2_with fail
    refine (awake_any _).mono ?_
    rintro e w2 ⟨rfl, hb2⟩
    have h2 : RingI.Has w2 (w.heap.size + 1) w.heap.size 100 (ys.take 0) := h1.below hb2 h1.p_lt h1.q_lt
    have hbw := hb1.trans (hb2.mono hb1.size)
    have hbs := hbw.size
    have H2 := Lib.hid h2
    clear h2 h1
    go_wp2_with fail
    go_loopw [6] (fun i wr => ∃ k : Nat, k ≤ ys.length ∧ i = .int .i64 (k : Int) ∧ RingI.Has wr (w.heap.size + 1) w.heap.size 100 (ys.take k) ∧ Below w.heap.size w wr) (fun i _ => ys.length - (intOf i).toNat)
    case atStart => exact ⟨0, Nat.zero_le _, rfl, H2.out, hbw⟩
    case round =>
      obtain ⟨k, hk, rfl, hr, hb⟩ := hrel
      by_cases hlt : k < ys.length
      · have hA1 := hA.below hb (Nat.le_refl _)
        obtain ⟨b1, o1, rfl, _, hbl, hc1⟩ := hA1.at1 hlt
        rw [List.getElem?_map, List.getElem?_eq_getElem hlt] at hc1
        simp only [Option.map_some] at hc1
        obtain ⟨hp1, _⟩ := take_push (m := 100) hlt
        rw [show min k 100 = k from by omega, show min (k + 1) 100 = k + 1 from by omega] at hp1
        have HP1 := Lib.hid hp1
        clear hp1
        generalize ys[k] = y at *
        have i0' : (0 : Int) ≤ (k : Int) := by omega
        have i1 : (k : Int) < (ys.length : Int) := by omega
        go_wp2_with fail
        refine (RingI.push_has hr y).mono ?_
        rintro e w4 ⟨rfl, h4, hk4⟩
        rw [HP1.out] at h4
        have hb4 := Kept.after hb hk4 HL.out
        go_wp2_with fail
        go_roundw
        case rel => exact ⟨k + 1, hlt, by go_num, h4, hb4⟩
        case measure => simp [intOf]; omega
      · obtain rfl : k = ys.length := by omega
        rw [List.take_length] at hr
        clear hk hlt H2
        by_cases hin : RingI.has ys at_ = true
        · have hin' := hin
          unfold RingI.has at hin'
          obtain ⟨hn0, hn1⟩ := of_decide_eq_true hin'
          obtain ⟨k, rfl⟩ := Int.eq_ofNat_of_zero_le hn0
          have hky : k < ys.length := by omega
          clear hin' hn0 hn1 hin
          obtain ⟨hcl, hgot, hhas⟩ := cut_list hky
          go_wp2_with fail
          refine (RingI.cut_has hr (k : Int)).mono ?_
          rintro e w4 ⟨rfl, h4, hk4⟩
          rw [← hcl] at h4
          rw [hgot, hhas]
          have hb4 := Kept.after hb hk4 HL.out
          have hA4 := hA.below hb4 (Nat.le_refl _)
          obtain ⟨b1, o1, rfl, _, hbl, hcy⟩ := hA4.at1 hky
          rw [List.getElem?_map, List.getElem?_eq_getElem hky] at hcy
          simp only [Option.map_some] at hcy
          have i0' : (0 : Int) ≤ (k : Int) := by omega
          have i1 : (k : Int) < (ys.length : Int) := by omega
          have hd2 : decide ((k : Int) < 0) = false := by simp
          have hd3 : decide (ys.length ≤ k) = false := by simp; omega
          have hw1 : IntKind.i64.wrap ((k : Int) + 1) = (k : Int) + 1 := IntWalk.i64_in _ (by omega)
          have k1a : (0 : Int) ≤ (k : Int) + 1 := by omega
          have k1n : ((k : Int) + 1).toNat = k + 1 := by omega
          have k1b : (k : Int) + 1 ≤ (ys.length : Int) := by omega
          have k0c : (k : Int) ≤ (c : Int) := by omega
          obtain ⟨zs, hzs⟩ : ∃ zs, [] ++ ys.take k ++ ys.drop (k + 1) = zs := ⟨_, rfl⟩
          rw [hzs] at h4
          have HZS := Lib.hid hzs
          have hlen : zs.length = ys.length - 1 := by rw [← hzs]; simp; omega
          have HZL := Lib.hid (show zs.length = k + (ys.length - (k + 1)) from by omega)
          have hzl : zs.length ≤ maxLen := by unfold maxLen; omega
          have hn0 : CutR w (w.heap.size + 1) w.heap.size w4.heap.size (some ⟨b1, o1, none⟩) ys zs w4.drew :=
            ⟨h4.drewN 1, hA4, below_drewN hb4 1, Nat.le_refl _⟩
          have HN0 := Lib.hid hn0
          clear hn0
          have hpB : w.heap.size + 1 < w4.heap.size := h4.p_lt
          have hqB : w.heap.size < w4.heap.size := h4.q_lt
          have hwB : w.heap.size ≤ w4.heap.size := by omega
          have HT := Lib.hid (show ∀ W, Sl W 0 w.heap.size 1 (some ⟨b1, o1, none⟩) ys.length (ys.map mkI) → Sl W 0 w.heap.size 1 (some ⟨b1, o1, none⟩) k ((ys.map mkI).take k) from fun W h => h.take (by omega))
          have hone : ∀ u ∈ ys.map mkI, u.oneCell' = true := by simp [Value.oneCell']
          have HO1 := Lib.hid (show ∀ u ∈ (ys.map mkI).take k, u.oneCell' = true from fun u hu => hone u (List.mem_of_mem_take hu))
          have HO2 := Lib.hid (show ∀ u ∈ (ys.map mkI).drop (k + 1), u.oneCell' = true from fun u hu => hone u (List.mem_of_mem_drop hu))
          clear hone hcl hgot hhas hlen hzs
          generalize hgy : ys[k] = y at *
          have HC := Lib.hid (show ∀ W, Sl W 0 w.heap.size 1 (some ⟨b1, o1, none⟩) ys.length (ys.map mkI) → W.cell? ⟨b1, o1 + k, none⟩ = some (mkI y) from fun W h => by
            obtain ⟨b2, o2, e, _, _, hc⟩ := h.at1 hky
            injection e with e
            injection e with e1 e2
            subst e1; subst e2
            rw [hc, List.getElem?_map, List.getElem?_eq_getElem hky, ← hgy]; rfl)
          clear hgy
          by_cases hck : c = k + 1
          · subst hck
            have HZL := Lib.hid (show zs.length = k + 0 from by have := HZL.out; omega)
            have k0d : (k : Int) ≤ (k : Int) + 1 := by omega
            have HD := Lib.hid (show ∀ W, Sl W 0 w.heap.size 1 (some ⟨b1, o1, none⟩) ys.length (ys.map mkI) → Sl W 0 w.heap.size 1 (some ⟨b1, o1, none⟩) 0 ((ys.map mkI).drop (k + 1)) from fun W h => by have := h.drop_end (k + 1) (by omega) (some ⟨b1, o1, none⟩); rwa [show ys.length - (k + 1) = 0 from by omega] at this)
            go_wp2_with fail
            refine' wp_flow [only 0 _, only 1 _, only 2 _, only 3 _, only 4 _, only 5 _, only 6 _, only 7 _, only 8 _, only 9 (.bool true), only 10 _, own 11 (fun y v => ∃ G1 A1 c1, y = .slice A1 zs.length c1 ∧ Vec v G1 1 A1 zs.length c1 (zs.map mkI)), own 12 (fun y v => ∃ b, y = .slice (some ⟨b, 0, none⟩) 0 0 ∧ Vec v [b] 1 (some ⟨b, 0, none⟩) 0 0 []), only 13 _, only 14 _, only 15 (.slice (some ⟨b1, o1, none⟩) k (k + 1)), own 16 (fun y v => ∃ G A2 c2, y = .slice A2 k c2 ∧ Vec v G 1 A2 k c2 ((ys.map mkI).take k)), only 17 _, only 18 _, only 19 (.int .i64 ((k : Int) + 1)), only 20 (.slice (some ⟨b1, o1, none⟩) 0 0), own 21 (fun y v => ∃ G A2 c2, y = .slice A2 zs.length c2 ∧ Vec v G 1 A2 zs.length c2 (zs.map mkI)), only 22 (.bool true), only 23 _, only 24 (.bool true), (fun us v => CutJ w4.heap.size (us 11) (us 12) (us 16) v)] (fun v => CutR w (w.heap.size + 1) w.heap.size w4.heap.size (some ⟨b1, o1, none⟩) ys zs v) [[], [0], [1], [1], [1], [1, 3, 4], [1, 5], [1, 2, 6], [1, 7], [8], [9], [9, 10, 25], [9, 25], [9], [9], [9, 13, 14], [9, 12, 15, 25], [9], [9], [9, 18], [9, 17, 19], [9, 16, 20, 25], [9, 11, 21, 25], [9, 22], [23]] [[], [], [], [], [], [], [], [], [], [], [], [], [], [], [], [], [12], [], [], [], [], [16], [], [], []] [[], [], [], [], [], [], [], [], [], [], [], [], [], [], [], [], [], [], [], [], [], [], [], [], []] [[25], [25], [25], [25], [25], [25], [25], [25], [25], [25], [12, 16, 21, 25], [12, 16, 21, 25], [11, 25], [11, 12, 25], [11, 12, 25], [11, 12, 25], [11, 25], [11, 12, 16, 25], [11, 12, 16, 25], [11, 12, 16, 25], [11, 12, 16, 25], [11, 25], [11, 21, 25], [11, 21, 25], [11, 21, 25]] [11, 12, 16, 21, 25] [0, 1, 3, 3, 3, 27, 59, 127, 255, 511, 1023, 2047, 1023, 1023, 1023, 25599, 62463, 1023, 1023, 263167, 918527, 2094079, 4194303, 8388607, 16777215] _ (fun us => ?hfr) (by kernel_rfl) (by kernel_rfl) (by kernel_rfl) ⟨only_still _, only_still _, only_still _, only_still _, only_still _, only_still _, only_still _, only_still _, only_still _, only_still _, only_still _, trivial, trivial, only_still _, only_still _, only_still _, trivial, only_still _, only_still _, only_still _, only_still _, trivial, only_still _, only_still _, only_still _, trivial, trivial⟩ (HN0.out) (by simp) ((CutJ.start rfl rfl rfl)) ?hst ?hla
            case hfr => (simp only [List.cons_append, List.nil_append, putAll, Act.put, List.setIfInBounds_toArray, List.set_cons_zero, List.set_cons_succ, Nat.reduceAdd]; rfl)
            case hst =>
              refine ⟨?_, ?_, ?_, ?_, ?_, ?_, ?_, ?_, ?_, ?_, ?_, ?_, ?_, ?_, ?_, ?_, ?_, ?_, ?_, ?_, ?_, ?_, ?_, ?_, ?_, trivial⟩
              · intro us v hR hn ho K hK
                clear ho
                have hcy := HC.out _ hR.sl
                rw [if_pos (by rfl)]
                go_simp
                refine hK _ _ _ (by simp only [Act.put, List.setIfInBounds_toArray, List.set_cons_zero, List.set_cons_succ, Nat.reduceAdd] <;> rfl) ?_ hR ⟨fun h => h, trivial⟩
                refine only_mk (v := v) ?_
                with_reducible rfl
              · intro us v hR hn ho K hK
                obtain ⟨n0, -⟩ := hn
                have n0 : us 0 = _ := n0
                clear ho
                have hcy := HC.out _ hR.sl
                rw [if_pos (by rfl)]
                go_simp
                refine hK _ _ _ (by simp only [Act.put, List.setIfInBounds_toArray, List.set_cons_zero, List.set_cons_succ, Nat.reduceAdd, n0] <;> rfl) ?_ hR ⟨fun h => h, trivial⟩
                refine only_mk (v := v) ?_
                with_reducible rfl
              · intro us v hR hn ho K hK
                obtain ⟨n1, -⟩ := hn
                have n1 : us 1 = _ := n1
                clear ho
                have hcy := HC.out _ hR.sl
                rw [if_pos (by simp [Region.wanted, yielded, n1])]
                go_simp
                refine hK _ _ _ (by simp only [Act.put, List.setIfInBounds_toArray, List.set_cons_zero, List.set_cons_succ, Nat.reduceAdd, n1] <;> rfl) ?_ hR ⟨fun h => h, trivial⟩
                refine only_mk (v := v) ?_
                with_reducible rfl
              · intro us v hR hn ho K hK
                obtain ⟨n1, -⟩ := hn
                have n1 : us 1 = _ := n1
                clear ho
                have hcy := HC.out _ hR.sl
                rw [if_pos (by simp [Region.wanted, yielded, n1])]
                go_simp
                refine hK _ _ _ (by simp only [Act.put, List.setIfInBounds_toArray, List.set_cons_zero, List.set_cons_succ, Nat.reduceAdd, n1] <;> rfl) ?_ hR ⟨fun h => h, trivial⟩
                refine only_mk (v := v) ?_
                with_reducible rfl
              · intro us v hR hn ho K hK
                obtain ⟨n1, -⟩ := hn
                have n1 : us 1 = _ := n1
                clear ho
                have hcy := HC.out _ hR.sl
                rw [if_pos (by simp [Region.wanted, yielded, n1])]
                go_simp
                refine hK _ _ _ (by simp only [Act.put, List.setIfInBounds_toArray, List.set_cons_zero, List.set_cons_succ, Nat.reduceAdd, n1] <;> rfl) ?_ hR ⟨fun h => h, trivial⟩
                refine only_mk (v := v) ?_
                with_reducible rfl
              · intro us v hR hn ho K hK
                obtain ⟨n1, n3, n4, -⟩ := hn
                have n1 : us 1 = _ := n1
                have n3 : us 3 = _ := n3
                have n4 : us 4 = _ := n4
                clear ho
                have hcy := HC.out _ hR.sl
                rw [if_pos (by simp [Region.wanted, yielded, n1, n3, n4])]
                go_simp
                refine hK _ _ _ (by simp only [Act.put, List.setIfInBounds_toArray, List.set_cons_zero, List.set_cons_succ, Nat.reduceAdd, n1, n3, n4] <;> rfl) ?_ hR ⟨fun h => h, trivial⟩
                refine only_mk (v := v) ?_
                with_reducible rfl
              · intro us v hR hn ho K hK
                obtain ⟨n1, n5, -⟩ := hn
                have n1 : us 1 = _ := n1
                have n5 : us 5 = _ := n5
                clear ho
                have hcy := HC.out _ hR.sl
                rw [if_pos (by simp [Region.wanted, yielded, n1, n5])]
                go_simp
                refine hK _ _ _ (by simp only [Act.put, List.setIfInBounds_toArray, List.set_cons_zero, List.set_cons_succ, Nat.reduceAdd, n1, n5] <;> rfl) ?_ hR ⟨fun h => h, trivial⟩
                refine only_mk (v := v) ?_
                with_reducible rfl
              · intro us v hR hn ho K hK
                obtain ⟨n1, n2, n6, -⟩ := hn
                have n1 : us 1 = _ := n1
                have n2 : us 2 = _ := n2
                have n6 : us 6 = _ := n6
                clear ho
                have hcy := HC.out _ hR.sl
                rw [if_pos (by simp [Region.wanted, yielded, n1, n2, n6])]
                go_simp
                refine hK _ _ _ (by simp only [Act.put, List.setIfInBounds_toArray, List.set_cons_zero, List.set_cons_succ, Nat.reduceAdd, n1, n2, n6] <;> rfl) ?_ hR ⟨fun h => h, trivial⟩
                refine only_mk (v := v) ?_
                with_reducible rfl
              · intro us v hR hn ho K hK
                obtain ⟨n1, n7, -⟩ := hn
                have n1 : us 1 = _ := n1
                have n7 : us 7 = _ := n7
                clear ho
                have hcy := HC.out _ hR.sl
                rw [if_pos (by rfl)]
                go_simp
                refine hK _ _ _ (by simp only [Act.put, List.setIfInBounds_toArray, List.set_cons_zero, List.set_cons_succ, Nat.reduceAdd, n1, n7] <;> rfl) ?_ hR ⟨fun h => h, trivial⟩
                refine only_mk (v := v) ?_
                with_reducible rfl
              · intro us v hR hn ho K hK
                obtain ⟨n8, -⟩ := hn
                have n8 : us 8 = _ := n8
                clear ho
                have hcy := HC.out _ hR.sl
                rw [if_pos (by rfl)]
                go_simp
                refine hK _ _ _ (by simp only [Act.put, List.setIfInBounds_toArray, List.set_cons_zero, List.set_cons_succ, Nat.reduceAdd, n8] <;> rfl) ?_ hR ⟨fun h => h, trivial⟩
                refine only_mk (v := v) ?_
                with_reducible rfl
              · intro us v hR hn ho K hK
                obtain ⟨n9, -⟩ := hn
                have n9 : us 9 = _ := n9
                clear ho
                have hcy := HC.out _ hR.sl
                rw [if_pos (by simp [Region.wanted, yielded, n9])]
                go_simp
                refine hK _ _ _ (by simp only [Act.put, List.setIfInBounds_toArray, List.set_cons_zero, List.set_cons_succ, Nat.reduceAdd, n9] <;> rfl) ?_ hR ⟨fun h => h, fun h => h, fun h => h, fun h => h, trivial⟩
                refine only_mk (v := v) ?_
                with_reducible rfl
              · intro us v hR hn ho K hK
                obtain ⟨n9, n10, ns, -⟩ := hn
                have n9 : us 9 = _ := n9
                have n10 : us 10 = _ := n10
                clear ho
                have hcy := HC.out _ hR.sl
                rw [if_pos (by simp [Region.wanted, yielded, n9])]
                have hJ : CutJ w4.heap.size (us 11) (us 12) (us 16) v := ns
                clear hcy
                go_simp
                refine (RingI.all_has hR.ring).mono ?_
                rintro e v' ⟨v5, rfl, ho5, hb5⟩
                obtain ⟨G1, A1, c1, rfl, hv1, hG1⟩ := Vec.of_own ho5
                dsimp only
                exact hK _ _ _ (by simp only [Act.put, List.setIfInBounds_toArray, List.set_cons_zero, List.set_cons_succ, Nat.reduceAdd, n9, n10, n9] <;> rfl) ⟨G1, A1, c1, rfl, hv1⟩ (hR.below hb5) ⟨fun ⟨b, q1, q2⟩ => ⟨b, q1, q2.after hb5⟩, fun ⟨G, A2, c2, q1, q2⟩ => ⟨G, A2, c2, q1, q2.after hb5⟩, fun ⟨G, A2, c2, q1, q2⟩ => ⟨G, A2, c2, q1, q2.after hb5⟩, fun _ => hJ.at11 hR.big hb5.size fun g e => ⟨hG1 g (by rw [(vec_blk hv1 e).1]; simp), (vec_blk hv1 e).2⟩, trivial⟩
              · intro us v hR hn ho K hK
                obtain ⟨n9, ns, -⟩ := hn
                have n9 : us 9 = _ := n9
                clear ho
                have hcy := HC.out _ hR.sl
                rw [if_pos (by simp [Region.wanted, yielded, n9])]
                have hJ : CutJ w4.heap.size (us 11) (us 12) (us 16) v := ns
                clear hcy
                go_simp
                have hb5 : Below v.heap.size v (v.alloc (.cells #[] 3)) := (Below.refl _ _).alloc (Nat.le_refl _) _
                refine hK _ _ _ (by simp only [Act.put, List.setIfInBounds_toArray, List.set_cons_zero, List.set_cons_succ, Nat.reduceAdd, n9, n9] <;> rfl) ⟨v.heap.size, rfl, cuts_empty v⟩ (hR.below hb5) ⟨fun ⟨G, A2, c2, q1, q2⟩ => ⟨G, A2, c2, q1, q2.after hb5⟩, fun _ => hJ.at12 hR.big hb5.size fun g e => ?_, trivial⟩
                have e' : v.heap.size = g := Option.some.inj e
                subst e'
                exact ⟨Nat.le_refl _, by simp⟩
              · intro us v hR hn ho K hK
                obtain ⟨n9, -⟩ := hn
                have n9 : us 9 = _ := n9
                clear ho
                have hcy := HC.out _ hR.sl
                rw [if_pos (by simp [Region.wanted, yielded, n9])]
                go_simp
                refine hK _ _ _ (by simp only [Act.put, List.setIfInBounds_toArray, List.set_cons_zero, List.set_cons_succ, Nat.reduceAdd, n9] <;> rfl) ?_ hR ⟨fun h => h, fun h => h, fun h => h, trivial⟩
                refine only_mk (v := v) ?_
                with_reducible rfl
              · intro us v hR hn ho K hK
                obtain ⟨n9, -⟩ := hn
                have n9 : us 9 = _ := n9
                clear ho
                have hcy := HC.out _ hR.sl
                rw [if_pos (by simp [Region.wanted, yielded, n9])]
                go_simp
                refine hK _ _ _ (by simp only [Act.put, List.setIfInBounds_toArray, List.set_cons_zero, List.set_cons_succ, Nat.reduceAdd, n9] <;> rfl) ?_ hR ⟨fun h => h, fun h => h, fun h => h, trivial⟩
                refine only_mk (v := v) ?_
                with_reducible rfl
              · intro us v hR hn ho K hK
                obtain ⟨n9, n13, n14, -⟩ := hn
                have n9 : us 9 = _ := n9
                have n13 : us 13 = _ := n13
                have n14 : us 14 = _ := n14
                clear ho
                have hcy := HC.out _ hR.sl
                rw [if_pos (by simp [Region.wanted, yielded, n9, n13, n14])]
                go_simp
                refine hK _ _ _ (by simp only [Act.put, List.setIfInBounds_toArray, List.set_cons_zero, List.set_cons_succ, Nat.reduceAdd, n9, n13, n14] <;> rfl) ?_ hR ⟨fun h => h, fun h => h, fun h => h, trivial⟩
                refine only_mk (v := v) ?_
                with_reducible rfl
              · intro us v hR hn ho K hK
                obtain ⟨n9, n12, n15, ns, -⟩ := hn
                have n9 : us 9 = _ := n9
                have n15 : us 15 = _ := n15
                clear ho
                have hcy := HC.out _ hR.sl
                obtain ⟨b, n12, hvb⟩ := n12
                have hJ : CutJ w4.heap.size (us 11) (us 12) (us 16) v := ns
                refine step_append_vec _ (by simp [Region.wanted, yielded, n9]) (.tmp 76) (.tmp 79) 26 26 (by rfl) 3 i0 _ 1 8 Try.underlying26 hi0 hz0 hz1 hz2 rfl [b] (some ⟨b, 0, none⟩) 0 0 [] _ k ((ys.map mkI).take k) n12 n15 hvb (sl_src Try.underlying26 (HT.out _ hR.sl) HO1.out) (by unfold maxLen; omega) (by omega) ?_
                intro v' w5 happ
                rw [Nat.zero_add, List.nil_append] at happ
                obtain ⟨G5, A5, c5, rfl, hv5, ht5⟩ := happ.all
                have hbb := hJ.b12 b (by rw [n12]; rfl)
                refine hK _ _ _ (by simp only [Act.put, List.setIfInBounds_toArray, List.set_cons_zero, List.set_cons_succ, Nat.reduceAdd, n9, n15, n9, n12, n15] <;> rfl) ⟨G5, A5, c5, rfl, hv5⟩ (hR.kept ht5.kept (by simp; exact hbb.1) hpB hqB hwB) ⟨fun ⟨G, A2, c2, q1, q2⟩ => ⟨G, A2, c2, q1, q2.kept ht5.kept fun j hj => ?_⟩, fun _ => hJ.at16 hR.big ht5.kept.size fun g e => ⟨?_, (vec_blk hv5 e).2⟩, trivial⟩
                · have hh := (hJ.ap j (by rw [q1]; exact vec_not q2 hj)).1
                  rw [n12] at hh
                  simp only [List.mem_singleton]
                  rintro rfl
                  exact hh rfl
                · rcases ht5.new g (by rw [(vec_blk hv5 e).1]; simp) with h9 | h9
                  · simp at h9; subst h9; exact .inl (by rw [n12]; rfl)
                  · exact .inr h9
              · intro us v hR hn ho K hK
                obtain ⟨n9, -⟩ := hn
                have n9 : us 9 = _ := n9
                clear ho
                have hcy := HC.out _ hR.sl
                rw [if_pos (by simp [Region.wanted, yielded, n9])]
                go_simp
                refine hK _ _ _ (by simp only [Act.put, List.setIfInBounds_toArray, List.set_cons_zero, List.set_cons_succ, Nat.reduceAdd, n9] <;> rfl) ?_ hR ⟨fun h => h, fun h => h, fun h => h, fun h => h, trivial⟩
                refine only_mk (v := v) ?_
                with_reducible rfl
              · intro us v hR hn ho K hK
                obtain ⟨n9, -⟩ := hn
                have n9 : us 9 = _ := n9
                clear ho
                have hcy := HC.out _ hR.sl
                rw [if_pos (by simp [Region.wanted, yielded, n9])]
                go_simp
                refine hK _ _ _ (by simp only [Act.put, List.setIfInBounds_toArray, List.set_cons_zero, List.set_cons_succ, Nat.reduceAdd, n9] <;> rfl) ?_ hR ⟨fun h => h, fun h => h, fun h => h, fun h => h, trivial⟩
                refine only_mk (v := v) ?_
                with_reducible rfl
              · intro us v hR hn ho K hK
                obtain ⟨n9, n18, -⟩ := hn
                have n9 : us 9 = _ := n9
                have n18 : us 18 = _ := n18
                clear ho
                have hcy := HC.out _ hR.sl
                rw [if_pos (by simp [Region.wanted, yielded, n9, n18])]
                go_simp
                refine hK _ _ _ (by simp only [Act.put, List.setIfInBounds_toArray, List.set_cons_zero, List.set_cons_succ, Nat.reduceAdd, n9, n18] <;> rfl) ?_ hR ⟨fun h => h, fun h => h, fun h => h, fun h => h, trivial⟩
                refine only_mk (v := v) ?_
                with_reducible rfl
              · intro us v hR hn ho K hK
                obtain ⟨n9, n17, n19, -⟩ := hn
                have n9 : us 9 = _ := n9
                have n17 : us 17 = _ := n17
                have n19 : us 19 = _ := n19
                clear ho
                have hcy := HC.out _ hR.sl
                rw [if_pos (by simp [Region.wanted, yielded, n9, n17, n19])]
                go_simp
                refine hK _ _ _ (by simp only [Act.put, List.setIfInBounds_toArray, List.set_cons_zero, List.set_cons_succ, Nat.reduceAdd, n9, n17, n19] <;> rfl) ?_ hR ⟨fun h => h, fun h => h, fun h => h, fun h => h, trivial⟩
                refine only_mk (v := v) ?_
                with_reducible rfl
              · intro us v hR hn ho K hK
                obtain ⟨n9, n16, n20, ns, -⟩ := hn
                have n9 : us 9 = _ := n9
                have n20 : us 20 = _ := n20
                clear ho
                have hcy := HC.out _ hR.sl
                obtain ⟨G4, A4, c4, n16, hv4⟩ := n16
                have hJ : CutJ w4.heap.size (us 11) (us 12) (us 16) v := ns
                refine step_append_vec _ (by simp [Region.wanted, yielded, n9]) (.tmp 80) (.tmp 84) 26 26 (by rfl) 3 i0 _ 1 8 Try.underlying26 hi0 hz0 hz1 hz2 rfl G4 A4 k c4 ((ys.map mkI).take k) _ 0 ((ys.map mkI).drop (k + 1)) n16 n20 hv4 (sl_src Try.underlying26 (HD.out _ hR.sl) HO2.out) (by unfold maxLen; omega) (by omega) ?_
                intro v' w5 happ
                rw [← List.map_take, ← List.map_drop, ← List.map_append] at happ
                obtain ⟨G5, A5, c5, rfl, hv5, ht5⟩ := happ.all
                have hGB : ∀ j, j ∈ G4 → w4.heap.size ≤ j := fun j hj => (hJ.b16 j (by rw [n16]; exact vec_not hv4 hj)).1
                refine hK _ _ _ (by simp only [Act.put, List.setIfInBounds_toArray, List.set_cons_zero, List.set_cons_succ, Nat.reduceAdd, n9, n20, n9, n16, n20] <;> rfl) ⟨G5, A5, c5, (by rw [HZL.out]; rfl), (by rw [HZL.out, ← HZS.out]; simpa using hv5)⟩ (hR.kept ht5.kept hGB hpB hqB hwB) ⟨fun ⟨G, A2, c2, q1, q2⟩ => ⟨G, A2, c2, q1, q2.kept ht5.kept fun j hj hg => ?_⟩, fun _ => hJ.size ht5.kept.size, trivial⟩
                exact (hJ.ap j (by rw [q1]; exact vec_not q2 hj)).2 (by rw [n16]; exact vec_not hv4 hg)
              · intro us v hR hn ho K hK
                obtain ⟨n9, n11, n21, ns, -⟩ := hn
                have n9 : us 9 = _ := n9
                clear ho
                have hcy := HC.out _ hR.sl
                obtain ⟨G1, A1, c1, n11, hv1⟩ := n11
                obtain ⟨G2, A2, c2, n21, hv2⟩ := n21
                rw [if_pos (by simp [Region.wanted, yielded, n9])]
                go_simp
                refine (same_any (vec_sl hv1) (vec_sl hv2) hzl hzl).mono ?_
                rintro e w8 ⟨rfl, n8, rfl⟩
                dsimp only
                refine hK _ _ _ (by simp only [Act.put, List.setIfInBounds_toArray, List.set_cons_zero, List.set_cons_succ, Nat.reduceAdd, n9, n9, n11, n21] <;> rfl) (only_mk (v := v) ?_) ⟨hR.ring.drewN n8, hR.sl, below_drewN hR.bel n8, hR.big⟩ ⟨fun ⟨G, A2, c2, q1, q2⟩ => ⟨G, A2, c2, q1, q2.drewN n8⟩, fun ⟨G, A2, c2, q1, q2⟩ => ⟨G, A2, c2, q1, q2.drewN n8⟩, fun h => CutJ.size (v := v) h (Nat.le_refl _), trivial⟩
                simp
              · intro us v hR hn ho K hK
                obtain ⟨n9, n22, -⟩ := hn
                have n9 : us 9 = _ := n9
                have n22 : us 22 = _ := n22
                clear ho
                have hcy := HC.out _ hR.sl
                rw [if_pos (by rfl)]
                go_simp
                refine hK _ _ _ (by simp only [Act.put, List.setIfInBounds_toArray, List.set_cons_zero, List.set_cons_succ, Nat.reduceAdd, n9, n22] <;> rfl) ?_ hR ⟨fun h => h, fun h => h, fun h => h, trivial⟩
                refine only_mk (v := v) ?_
                with_reducible rfl
              · intro us v hR hn ho K hK
                obtain ⟨n23, -⟩ := hn
                have n23 : us 23 = _ := n23
                clear ho
                have hcy := HC.out _ hR.sl
                rw [if_pos (by rfl)]
                go_simp
                refine hK _ _ _ (by simp only [Act.put, List.setIfInBounds_toArray, List.set_cons_zero, List.set_cons_succ, Nat.reduceAdd, n23] <;> rfl) ?_ hR ⟨fun h => h, fun h => h, fun h => h, trivial⟩
                refine only_mk (v := v) ?_
                with_reducible rfl
            case hla =>
              intro us v hR hl
              obtain ⟨n0, n1, n2, n3, n4, n5, n6, n7, n8, n9, n10, n11, n13, n14, n15, n17, n18, n19, n20, n21, n22, n23, n24, -⟩ := need_last hl [0, 1, 2, 3, 4, 5, 6, 7, 8, 9, 10, 11, 13, 14, 15, 17, 18, 19, 20, 21, 22, 23, 24] (by kernel_rfl)
              have n0 : us 0 = _ := n0
              have n1 : us 1 = _ := n1
              have n2 : us 2 = _ := n2
              have n3 : us 3 = _ := n3
              have n4 : us 4 = _ := n4
              have n5 : us 5 = _ := n5
              have n6 : us 6 = _ := n6
              have n7 : us 7 = _ := n7
              have n8 : us 8 = _ := n8
              have n9 : us 9 = _ := n9
              have n10 : us 10 = _ := n10
              have n13 : us 13 = _ := n13
              have n14 : us 14 = _ := n14
              have n15 : us 15 = _ := n15
              have n17 : us 17 = _ := n17
              have n18 : us 18 = _ := n18
              have n19 : us 19 = _ := n19
              have n20 : us 20 = _ := n20
              have n22 : us 22 = _ := n22
              have n23 : us 23 = _ := n23
              have n24 : us 24 = _ := n24
              have hcy := HC.out _ hR.sl
              simp only [n0, n1, n2, n3, n4, n5, n6, n7, n8, n9, n10, n13, n14, n15, n17, n18, n19, n20, n22, n23, n24]
              clear hl n0 n1 n2 n3 n4 n5 n6 n7 n8 n9 n10 n13 n14 n15 n17 n18 n19 n20 n22 n23 n24
              have HB9 := Lib.hid hR.bel
              clear hR
              go_wp2_with fail
              go_ret
              exact ⟨rfl, HB9.out⟩
          · have HD := Lib.hid (show ∀ W, Sl W 0 w.heap.size 1 (some ⟨b1, o1, none⟩) ys.length (ys.map mkI) → Sl W 0 w.heap.size 1 (some ⟨b1, o1 + (k + 1), none⟩) (ys.length - (k + 1)) ((ys.map mkI).drop (k + 1)) from fun W h => h.drop_at (k + 1) (by omega))
            go_wp2_with fail
            refine' wp_flow [only 0 _, only 1 _, only 2 _, only 3 _, only 4 _, only 5 _, only 6 _, only 7 _, only 8 _, only 9 (.bool true), only 10 _, own 11 (fun y v => ∃ G1 A1 c1, y = .slice A1 zs.length c1 ∧ Vec v G1 1 A1 zs.length c1 (zs.map mkI)), own 12 (fun y v => ∃ b, y = .slice (some ⟨b, 0, none⟩) 0 0 ∧ Vec v [b] 1 (some ⟨b, 0, none⟩) 0 0 []), only 13 _, only 14 _, only 15 (.slice (some ⟨b1, o1, none⟩) k c), own 16 (fun y v => ∃ G A2 c2, y = .slice A2 k c2 ∧ Vec v G 1 A2 k c2 ((ys.map mkI).take k)), only 17 _, only 18 _, only 19 (.int .i64 ((k : Int) + 1)), only 20 (.slice (some ⟨b1, o1 + (k + 1), none⟩) (ys.length - (k + 1)) (c - (k + 1))), own 21 (fun y v => ∃ G A2 c2, y = .slice A2 zs.length c2 ∧ Vec v G 1 A2 zs.length c2 (zs.map mkI)), only 22 (.bool true), only 23 _, only 24 (.bool true), (fun us v => CutJ w4.heap.size (us 11) (us 12) (us 16) v)] (fun v => CutR w (w.heap.size + 1) w.heap.size w4.heap.size (some ⟨b1, o1, none⟩) ys zs v) [[], [0], [1], [1], [1], [1, 3, 4], [1, 5], [1, 2, 6], [1, 7], [8], [9], [9, 10, 25], [9, 25], [9], [9], [9, 13, 14], [9, 12, 15, 25], [9], [9], [9, 18], [9, 17, 19], [9, 16, 20, 25], [9, 11, 21, 25], [9, 22], [23]] [[], [], [], [], [], [], [], [], [], [], [], [], [], [], [], [], [12], [], [], [], [], [16], [], [], []] [[], [], [], [], [], [], [], [], [], [], [], [], [], [], [], [], [], [], [], [], [], [], [], [], []] [[25], [25], [25], [25], [25], [25], [25], [25], [25], [25], [12, 16, 21, 25], [12, 16, 21, 25], [11, 25], [11, 12, 25], [11, 12, 25], [11, 12, 25], [11, 25], [11, 12, 16, 25], [11, 12, 16, 25], [11, 12, 16, 25], [11, 12, 16, 25], [11, 25], [11, 21, 25], [11, 21, 25], [11, 21, 25]] [11, 12, 16, 21, 25] [0, 1, 3, 3, 3, 27, 59, 127, 255, 511, 1023, 2047, 1023, 1023, 1023, 25599, 62463, 1023, 1023, 263167, 918527, 2094079, 4194303, 8388607, 16777215] _ (fun us => ?hfr) (by kernel_rfl) (by kernel_rfl) (by kernel_rfl) ⟨only_still _, only_still _, only_still _, only_still _, only_still _, only_still _, only_still _, only_still _, only_still _, only_still _, only_still _, trivial, trivial, only_still _, only_still _, only_still _, trivial, only_still _, only_still _, only_still _, only_still _, trivial, only_still _, only_still _, only_still _, trivial, trivial⟩ (HN0.out) (by simp) ((CutJ.start rfl rfl rfl)) ?hst ?hla
            case hfr => (simp only [List.cons_append, List.nil_append, putAll, Act.put, List.setIfInBounds_toArray, List.set_cons_zero, List.set_cons_succ, Nat.reduceAdd]; rfl)
            case hst =>
              refine ⟨?_, ?_, ?_, ?_, ?_, ?_, ?_, ?_, ?_, ?_, ?_, ?_, ?_, ?_, ?_, ?_, ?_, ?_, ?_, ?_, ?_, ?_, ?_, ?_, ?_, trivial⟩
              · intro us v hR hn ho K hK
                clear ho
                have hcy := HC.out _ hR.sl
                rw [if_pos (by rfl)]
                go_simp
                refine hK _ _ _ (by simp only [Act.put, List.setIfInBounds_toArray, List.set_cons_zero, List.set_cons_succ, Nat.reduceAdd] <;> rfl) ?_ hR ⟨fun h => h, trivial⟩
                refine only_mk (v := v) ?_
                with_reducible rfl
              · intro us v hR hn ho K hK
                obtain ⟨n0, -⟩ := hn
                have n0 : us 0 = _ := n0
                clear ho
                have hcy := HC.out _ hR.sl
                rw [if_pos (by rfl)]
                go_simp
                refine hK _ _ _ (by simp only [Act.put, List.setIfInBounds_toArray, List.set_cons_zero, List.set_cons_succ, Nat.reduceAdd, n0] <;> rfl) ?_ hR ⟨fun h => h, trivial⟩
                refine only_mk (v := v) ?_
                with_reducible rfl
              · intro us v hR hn ho K hK
                obtain ⟨n1, -⟩ := hn
                have n1 : us 1 = _ := n1
                clear ho
                have hcy := HC.out _ hR.sl
                rw [if_pos (by simp [Region.wanted, yielded, n1])]
                go_simp
                refine hK _ _ _ (by simp only [Act.put, List.setIfInBounds_toArray, List.set_cons_zero, List.set_cons_succ, Nat.reduceAdd, n1] <;> rfl) ?_ hR ⟨fun h => h, trivial⟩
                refine only_mk (v := v) ?_
                with_reducible rfl
              · intro us v hR hn ho K hK
                obtain ⟨n1, -⟩ := hn
                have n1 : us 1 = _ := n1
                clear ho
                have hcy := HC.out _ hR.sl
                rw [if_pos (by simp [Region.wanted, yielded, n1])]
                go_simp
                refine hK _ _ _ (by simp only [Act.put, List.setIfInBounds_toArray, List.set_cons_zero, List.set_cons_succ, Nat.reduceAdd, n1] <;> rfl) ?_ hR ⟨fun h => h, trivial⟩
                refine only_mk (v := v) ?_
                with_reducible rfl
              · intro us v hR hn ho K hK
                obtain ⟨n1, -⟩ := hn
                have n1 : us 1 = _ := n1
                clear ho
                have hcy := HC.out _ hR.sl
                rw [if_pos (by simp [Region.wanted, yielded, n1])]
                go_simp
                refine hK _ _ _ (by simp only [Act.put, List.setIfInBounds_toArray, List.set_cons_zero, List.set_cons_succ, Nat.reduceAdd, n1] <;> rfl) ?_ hR ⟨fun h => h, trivial⟩
                refine only_mk (v := v) ?_
                with_reducible rfl
              · intro us v hR hn ho K hK
                obtain ⟨n1, n3, n4, -⟩ := hn
                have n1 : us 1 = _ := n1
                have n3 : us 3 = _ := n3
                have n4 : us 4 = _ := n4
                clear ho
                have hcy := HC.out _ hR.sl
                rw [if_pos (by simp [Region.wanted, yielded, n1, n3, n4])]
                go_simp
                refine hK _ _ _ (by simp only [Act.put, List.setIfInBounds_toArray, List.set_cons_zero, List.set_cons_succ, Nat.reduceAdd, n1, n3, n4] <;> rfl) ?_ hR ⟨fun h => h, trivial⟩
                refine only_mk (v := v) ?_
                with_reducible rfl
              · intro us v hR hn ho K hK
                obtain ⟨n1, n5, -⟩ := hn
                have n1 : us 1 = _ := n1
                have n5 : us 5 = _ := n5
                clear ho
                have hcy := HC.out _ hR.sl
                rw [if_pos (by simp [Region.wanted, yielded, n1, n5])]
                go_simp
                refine hK _ _ _ (by simp only [Act.put, List.setIfInBounds_toArray, List.set_cons_zero, List.set_cons_succ, Nat.reduceAdd, n1, n5] <;> rfl) ?_ hR ⟨fun h => h, trivial⟩
                refine only_mk (v := v) ?_
                with_reducible rfl
              · intro us v hR hn ho K hK
                obtain ⟨n1, n2, n6, -⟩ := hn
                have n1 : us 1 = _ := n1
                have n2 : us 2 = _ := n2
                have n6 : us 6 = _ := n6
                clear ho
                have hcy := HC.out _ hR.sl
                rw [if_pos (by simp [Region.wanted, yielded, n1, n2, n6])]
                go_simp
                refine hK _ _ _ (by simp only [Act.put, List.setIfInBounds_toArray, List.set_cons_zero, List.set_cons_succ, Nat.reduceAdd, n1, n2, n6] <;> rfl) ?_ hR ⟨fun h => h, trivial⟩
                refine only_mk (v := v) ?_
                with_reducible rfl
              · intro us v hR hn ho K hK
                obtain ⟨n1, n7, -⟩ := hn
                have n1 : us 1 = _ := n1
                have n7 : us 7 = _ := n7
                clear ho
                have hcy := HC.out _ hR.sl
                rw [if_pos (by rfl)]
                go_simp
                refine hK _ _ _ (by simp only [Act.put, List.setIfInBounds_toArray, List.set_cons_zero, List.set_cons_succ, Nat.reduceAdd, n1, n7] <;> rfl) ?_ hR ⟨fun h => h, trivial⟩
                refine only_mk (v := v) ?_
                with_reducible rfl
              · intro us v hR hn ho K hK
                obtain ⟨n8, -⟩ := hn
                have n8 : us 8 = _ := n8
                clear ho
                have hcy := HC.out _ hR.sl
                rw [if_pos (by rfl)]
                go_simp
                refine hK _ _ _ (by simp only [Act.put, List.setIfInBounds_toArray, List.set_cons_zero, List.set_cons_succ, Nat.reduceAdd, n8] <;> rfl) ?_ hR ⟨fun h => h, trivial⟩
                refine only_mk (v := v) ?_
                with_reducible rfl
              · intro us v hR hn ho K hK
                obtain ⟨n9, -⟩ := hn
                have n9 : us 9 = _ := n9
                clear ho
                have hcy := HC.out _ hR.sl
                rw [if_pos (by simp [Region.wanted, yielded, n9])]
                go_simp
                refine hK _ _ _ (by simp only [Act.put, List.setIfInBounds_toArray, List.set_cons_zero, List.set_cons_succ, Nat.reduceAdd, n9] <;> rfl) ?_ hR ⟨fun h => h, fun h => h, fun h => h, fun h => h, trivial⟩
                refine only_mk (v := v) ?_
                with_reducible rfl
              · intro us v hR hn ho K hK
                obtain ⟨n9, n10, ns, -⟩ := hn
                have n9 : us 9 = _ := n9
                have n10 : us 10 = _ := n10
                clear ho
                have hcy := HC.out _ hR.sl
                rw [if_pos (by simp [Region.wanted, yielded, n9])]
                have hJ : CutJ w4.heap.size (us 11) (us 12) (us 16) v := ns
                clear hcy
                go_simp
                refine (RingI.all_has hR.ring).mono ?_
                rintro e v' ⟨v5, rfl, ho5, hb5⟩
                obtain ⟨G1, A1, c1, rfl, hv1, hG1⟩ := Vec.of_own ho5
                dsimp only
                exact hK _ _ _ (by simp only [Act.put, List.setIfInBounds_toArray, List.set_cons_zero, List.set_cons_succ, Nat.reduceAdd, n9, n10, n9] <;> rfl) ⟨G1, A1, c1, rfl, hv1⟩ (hR.below hb5) ⟨fun ⟨b, q1, q2⟩ => ⟨b, q1, q2.after hb5⟩, fun ⟨G, A2, c2, q1, q2⟩ => ⟨G, A2, c2, q1, q2.after hb5⟩, fun ⟨G, A2, c2, q1, q2⟩ => ⟨G, A2, c2, q1, q2.after hb5⟩, fun _ => hJ.at11 hR.big hb5.size fun g e => ⟨hG1 g (by rw [(vec_blk hv1 e).1]; simp), (vec_blk hv1 e).2⟩, trivial⟩
              · intro us v hR hn ho K hK
                obtain ⟨n9, ns, -⟩ := hn
                have n9 : us 9 = _ := n9
                clear ho
                have hcy := HC.out _ hR.sl
                rw [if_pos (by simp [Region.wanted, yielded, n9])]
                have hJ : CutJ w4.heap.size (us 11) (us 12) (us 16) v := ns
                clear hcy
                go_simp
                have hb5 : Below v.heap.size v (v.alloc (.cells #[] 3)) := (Below.refl _ _).alloc (Nat.le_refl _) _
                refine hK _ _ _ (by simp only [Act.put, List.setIfInBounds_toArray, List.set_cons_zero, List.set_cons_succ, Nat.reduceAdd, n9, n9] <;> rfl) ⟨v.heap.size, rfl, cuts_empty v⟩ (hR.below hb5) ⟨fun ⟨G, A2, c2, q1, q2⟩ => ⟨G, A2, c2, q1, q2.after hb5⟩, fun _ => hJ.at12 hR.big hb5.size fun g e => ?_, trivial⟩
                have e' : v.heap.size = g := Option.some.inj e
                subst e'
                exact ⟨Nat.le_refl _, by simp⟩
              · intro us v hR hn ho K hK
                obtain ⟨n9, -⟩ := hn
                have n9 : us 9 = _ := n9
                clear ho
                have hcy := HC.out _ hR.sl
                rw [if_pos (by simp [Region.wanted, yielded, n9])]
                go_simp
                refine hK _ _ _ (by simp only [Act.put, List.setIfInBounds_toArray, List.set_cons_zero, List.set_cons_succ, Nat.reduceAdd, n9] <;> rfl) ?_ hR ⟨fun h => h, fun h => h, fun h => h, trivial⟩
                refine only_mk (v := v) ?_
                with_reducible rfl
              · intro us v hR hn ho K hK
                obtain ⟨n9, -⟩ := hn
                have n9 : us 9 = _ := n9
                clear ho
                have hcy := HC.out _ hR.sl
                rw [if_pos (by simp [Region.wanted, yielded, n9])]
                go_simp
                refine hK _ _ _ (by simp only [Act.put, List.setIfInBounds_toArray, List.set_cons_zero, List.set_cons_succ, Nat.reduceAdd, n9] <;> rfl) ?_ hR ⟨fun h => h, fun h => h, fun h => h, trivial⟩
                refine only_mk (v := v) ?_
                with_reducible rfl
              · intro us v hR hn ho K hK
                obtain ⟨n9, n13, n14, -⟩ := hn
                have n9 : us 9 = _ := n9
                have n13 : us 13 = _ := n13
                have n14 : us 14 = _ := n14
                clear ho
                have hcy := HC.out _ hR.sl
                rw [if_pos (by simp [Region.wanted, yielded, n9, n13, n14])]
                go_simp
                refine hK _ _ _ (by simp only [Act.put, List.setIfInBounds_toArray, List.set_cons_zero, List.set_cons_succ, Nat.reduceAdd, n9, n13, n14] <;> rfl) ?_ hR ⟨fun h => h, fun h => h, fun h => h, trivial⟩
                refine only_mk (v := v) ?_
                with_reducible rfl
              · intro us v hR hn ho K hK
                obtain ⟨n9, n12, n15, ns, -⟩ := hn
                have n9 : us 9 = _ := n9
                have n15 : us 15 = _ := n15
                clear ho
                have hcy := HC.out _ hR.sl
                obtain ⟨b, n12, hvb⟩ := n12
                have hJ : CutJ w4.heap.size (us 11) (us 12) (us 16) v := ns
                refine step_append_vec _ (by simp [Region.wanted, yielded, n9]) (.tmp 76) (.tmp 79) 26 26 (by rfl) 3 i0 _ 1 8 Try.underlying26 hi0 hz0 hz1 hz2 rfl [b] (some ⟨b, 0, none⟩) 0 0 [] _ k ((ys.map mkI).take k) n12 n15 hvb (sl_src Try.underlying26 (HT.out _ hR.sl) HO1.out) (by unfold maxLen; omega) (by omega) ?_
                intro v' w5 happ
                rw [Nat.zero_add, List.nil_append] at happ
                obtain ⟨G5, A5, c5, rfl, hv5, ht5⟩ := happ.all
                have hbb := hJ.b12 b (by rw [n12]; rfl)
                refine hK _ _ _ (by simp only [Act.put, List.setIfInBounds_toArray, List.set_cons_zero, List.set_cons_succ, Nat.reduceAdd, n9, n15, n9, n12, n15] <;> rfl) ⟨G5, A5, c5, rfl, hv5⟩ (hR.kept ht5.kept (by simp; exact hbb.1) hpB hqB hwB) ⟨fun ⟨G, A2, c2, q1, q2⟩ => ⟨G, A2, c2, q1, q2.kept ht5.kept fun j hj => ?_⟩, fun _ => hJ.at16 hR.big ht5.kept.size fun g e => ⟨?_, (vec_blk hv5 e).2⟩, trivial⟩
                · have hh := (hJ.ap j (by rw [q1]; exact vec_not q2 hj)).1
                  rw [n12] at hh
                  simp only [List.mem_singleton]
                  rintro rfl
                  exact hh rfl
                · rcases ht5.new g (by rw [(vec_blk hv5 e).1]; simp) with h9 | h9
                  · simp at h9; subst h9; exact .inl (by rw [n12]; rfl)
                  · exact .inr h9
              · intro us v hR hn ho K hK
                obtain ⟨n9, -⟩ := hn
                have n9 : us 9 = _ := n9
                clear ho
                have hcy := HC.out _ hR.sl
                rw [if_pos (by simp [Region.wanted, yielded, n9])]
                go_simp
                refine hK _ _ _ (by simp only [Act.put, List.setIfInBounds_toArray, List.set_cons_zero, List.set_cons_succ, Nat.reduceAdd, n9] <;> rfl) ?_ hR ⟨fun h => h, fun h => h, fun h => h, fun h => h, trivial⟩
                refine only_mk (v := v) ?_
                with_reducible rfl
              · intro us v hR hn ho K hK
                obtain ⟨n9, -⟩ := hn
                have n9 : us 9 = _ := n9
                clear ho
                have hcy := HC.out _ hR.sl
                rw [if_pos (by simp [Region.wanted, yielded, n9])]
                go_simp
                refine hK _ _ _ (by simp only [Act.put, List.setIfInBounds_toArray, List.set_cons_zero, List.set_cons_succ, Nat.reduceAdd, n9] <;> rfl) ?_ hR ⟨fun h => h, fun h => h, fun h => h, fun h => h, trivial⟩
                refine only_mk (v := v) ?_
                with_reducible rfl
              · intro us v hR hn ho K hK
                obtain ⟨n9, n18, -⟩ := hn
                have n9 : us 9 = _ := n9
                have n18 : us 18 = _ := n18
                clear ho
                have hcy := HC.out _ hR.sl
                rw [if_pos (by simp [Region.wanted, yielded, n9, n18])]
                go_simp
                refine hK _ _ _ (by simp only [Act.put, List.setIfInBounds_toArray, List.set_cons_zero, List.set_cons_succ, Nat.reduceAdd, n9, n18] <;> rfl) ?_ hR ⟨fun h => h, fun h => h, fun h => h, fun h => h, trivial⟩
                refine only_mk (v := v) ?_
                with_reducible rfl
              · intro us v hR hn ho K hK
                obtain ⟨n9, n17, n19, -⟩ := hn
                have n9 : us 9 = _ := n9
                have n17 : us 17 = _ := n17
                have n19 : us 19 = _ := n19
                clear ho
                have hcy := HC.out _ hR.sl
                rw [if_pos (by simp [Region.wanted, yielded, n9, n17, n19])]
                go_simp
                refine hK _ _ _ (by simp only [Act.put, List.setIfInBounds_toArray, List.set_cons_zero, List.set_cons_succ, Nat.reduceAdd, n9, n17, n19] <;> rfl) ?_ hR ⟨fun h => h, fun h => h, fun h => h, fun h => h, trivial⟩
                refine only_mk (v := v) ?_
                with_reducible rfl
              · intro us v hR hn ho K hK
                obtain ⟨n9, n16, n20, ns, -⟩ := hn
                have n9 : us 9 = _ := n9
                have n20 : us 20 = _ := n20
                clear ho
                have hcy := HC.out _ hR.sl
                obtain ⟨G4, A4, c4, n16, hv4⟩ := n16
                have hJ : CutJ w4.heap.size (us 11) (us 12) (us 16) v := ns
                refine step_append_vec _ (by simp [Region.wanted, yielded, n9]) (.tmp 80) (.tmp 84) 26 26 (by rfl) 3 i0 _ 1 8 Try.underlying26 hi0 hz0 hz1 hz2 rfl G4 A4 k c4 ((ys.map mkI).take k) _ (ys.length - (k + 1)) ((ys.map mkI).drop (k + 1)) n16 n20 hv4 (sl_src Try.underlying26 (HD.out _ hR.sl) HO2.out) (by unfold maxLen; omega) (by omega) ?_
                intro v' w5 happ
                rw [← List.map_take, ← List.map_drop, ← List.map_append] at happ
                obtain ⟨G5, A5, c5, rfl, hv5, ht5⟩ := happ.all
                have hGB : ∀ j, j ∈ G4 → w4.heap.size ≤ j := fun j hj => (hJ.b16 j (by rw [n16]; exact vec_not hv4 hj)).1
                refine hK _ _ _ (by simp only [Act.put, List.setIfInBounds_toArray, List.set_cons_zero, List.set_cons_succ, Nat.reduceAdd, n9, n20, n9, n16, n20] <;> rfl) ⟨G5, A5, c5, (by rw [HZL.out]; rfl), (by rw [HZL.out, ← HZS.out]; simpa using hv5)⟩ (hR.kept ht5.kept hGB hpB hqB hwB) ⟨fun ⟨G, A2, c2, q1, q2⟩ => ⟨G, A2, c2, q1, q2.kept ht5.kept fun j hj hg => ?_⟩, fun _ => hJ.size ht5.kept.size, trivial⟩
                exact (hJ.ap j (by rw [q1]; exact vec_not q2 hj)).2 (by rw [n16]; exact vec_not hv4 hg)
              · intro us v hR hn ho K hK
                obtain ⟨n9, n11, n21, ns, -⟩ := hn
                have n9 : us 9 = _ := n9
                clear ho
                have hcy := HC.out _ hR.sl
                obtain ⟨G1, A1, c1, n11, hv1⟩ := n11
                obtain ⟨G2, A2, c2, n21, hv2⟩ := n21
                rw [if_pos (by simp [Region.wanted, yielded, n9])]
                go_simp
                refine (same_any (vec_sl hv1) (vec_sl hv2) hzl hzl).mono ?_
                rintro e w8 ⟨rfl, n8, rfl⟩
                dsimp only
                refine hK _ _ _ (by simp only [Act.put, List.setIfInBounds_toArray, List.set_cons_zero, List.set_cons_succ, Nat.reduceAdd, n9, n9, n11, n21] <;> rfl) (only_mk (v := v) ?_) ⟨hR.ring.drewN n8, hR.sl, below_drewN hR.bel n8, hR.big⟩ ⟨fun ⟨G, A2, c2, q1, q2⟩ => ⟨G, A2, c2, q1, q2.drewN n8⟩, fun ⟨G, A2, c2, q1, q2⟩ => ⟨G, A2, c2, q1, q2.drewN n8⟩, fun h => CutJ.size (v := v) h (Nat.le_refl _), trivial⟩
                simp
              · intro us v hR hn ho K hK
                obtain ⟨n9, n22, -⟩ := hn
                have n9 : us 9 = _ := n9
                have n22 : us 22 = _ := n22
                clear ho
                have hcy := HC.out _ hR.sl
                rw [if_pos (by rfl)]
                go_simp
                refine hK _ _ _ (by simp only [Act.put, List.setIfInBounds_toArray, List.set_cons_zero, List.set_cons_succ, Nat.reduceAdd, n9, n22] <;> rfl) ?_ hR ⟨fun h => h, fun h => h, fun h => h, trivial⟩
                refine only_mk (v := v) ?_
                with_reducible rfl
              · intro us v hR hn ho K hK
                obtain ⟨n23, -⟩ := hn
                have n23 : us 23 = _ := n23
                clear ho
                have hcy := HC.out _ hR.sl
                rw [if_pos (by rfl)]
                go_simp
                refine hK _ _ _ (by simp only [Act.put, List.setIfInBounds_toArray, List.set_cons_zero, List.set_cons_succ, Nat.reduceAdd, n23] <;> rfl) ?_ hR ⟨fun h => h, fun h => h, fun h => h, trivial⟩
                refine only_mk (v := v) ?_
                with_reducible rfl
            case hla =>
              intro us v hR hl
              obtain ⟨n0, n1, n2, n3, n4, n5, n6, n7, n8, n9, n10, n11, n13, n14, n15, n17, n18, n19, n20, n21, n22, n23, n24, -⟩ := need_last hl [0, 1, 2, 3, 4, 5, 6, 7, 8, 9, 10, 11, 13, 14, 15, 17, 18, 19, 20, 21, 22, 23, 24] (by kernel_rfl)
              have n0 : us 0 = _ := n0
              have n1 : us 1 = _ := n1
              have n2 : us 2 = _ := n2
              have n3 : us 3 = _ := n3
              have n4 : us 4 = _ := n4
              have n5 : us 5 = _ := n5
              have n6 : us 6 = _ := n6
              have n7 : us 7 = _ := n7
              have n8 : us 8 = _ := n8
              have n9 : us 9 = _ := n9
              have n10 : us 10 = _ := n10
              have n13 : us 13 = _ := n13
              have n14 : us 14 = _ := n14
              have n15 : us 15 = _ := n15
              have n17 : us 17 = _ := n17
              have n18 : us 18 = _ := n18
              have n19 : us 19 = _ := n19
              have n20 : us 20 = _ := n20
              have n22 : us 22 = _ := n22
              have n23 : us 23 = _ := n23
              have n24 : us 24 = _ := n24
              have hcy := HC.out _ hR.sl
              simp only [n0, n1, n2, n3, n4, n5, n6, n7, n8, n9, n10, n13, n14, n15, n17, n18, n19, n20, n22, n23, n24]
              clear hl n0 n1 n2 n3 n4 n5 n6 n7 n8 n9 n10 n13 n14 n15 n17 n18 n19 n20 n22 n23 n24
              have HB9 := Lib.hid hR.bel
              clear hR
              go_wp2_with fail
              go_ret
              exact ⟨rfl, HB9.out⟩
        · have hin : RingI.has ys at_ = false := by simpa using hin
          go_wp2_with fail
          refine (RingI.cut_has hr at_).mono ?_
          rintro e w4 ⟨rfl, h4, hk4⟩
          rw [RingI.got_no hin, hin]
          unfold RingI.cutted at h4
          rw [hin, if_neg (by simp)] at h4
          have hb4 := Kept.after hb hk4 HL.out
          have hA4 := hA.below hb4 (Nat.le_refl _)
          unfold RingI.has at hin
          have hin := of_decide_eq_false hin
          have hx2 : ys.length ≤ maxLen := by unfold maxLen; omega
          by_cases h0 : at_ < 0
          · have hd2 : decide (at_ < 0) = true := by simpa using h0
            clear hin h0
            go_wp2_with fail
            refine (RingI.all_has h4).mono ?_
            rintro e w5 ⟨v5, rfl, ho5, hb5⟩
            obtain ⟨A5, c5, rfl, _, hs5⟩ := Sl.of_own ho5
            go_wp2_with fail
            refine (same_any (by exact hs5) (by exact hA4.below hb5 (by have := hb4.size; omega)) hx2 hx2).mono ?_
            rintro e w6 ⟨rfl, n6, rfl⟩
            go_wp2_with fail
            go_ret
            exact ⟨by simp, below_drewN (hb4.trans (hb5.mono hb4.size)) n6⟩
          · have hd2 : decide (at_ < 0) = false := by simpa using h0
            have hd3 : decide ((ys.length : Int) ≤ at_) = true := by simp; omega
            clear hin h0
            go_wp2_with fail
            refine (RingI.all_has h4).mono ?_
            rintro e w5 ⟨v5, rfl, ho5, hb5⟩
            obtain ⟨A5, c5, rfl, _, hs5⟩ := Sl.of_own ho5
            go_wp2_with fail
            refine (same_any (by exact hs5) (by exact hA4.below hb5 (by have := hb4.size; omega)) hx2 hx2).mono ?_
            rintro e w6 ⟨rfl, n6, rfl⟩
            go_wp2_with fail
            go_ret
            exact ⟨by simp, below_drewN (hb4.trans (hb5.mono hb4.size)) n6⟩
  · have hd : decide (60 < (ys.length : Int)) = true := by simp; omega
    go_enter Try.func6, Try.ntmps6
    go_wp2_with fail
    refine (RingI.new_has 100 _).mono ?_
    rintro e w1 ⟨rfl, h1, hb1⟩
    go_wp2_with fail
    refine (awake_any _).mono ?_
    rintro e w2 ⟨rfl, hb2⟩
    go_wp2_with fail
    refine (awake_any _).mono ?_
    rintro e w3 ⟨rfl, hb3⟩
    have hbw := hb1.trans (hb2.mono hb1.size)
    go_wp2_with fail
    go_ret
    exact ⟨rfl, hbw.trans (hb3.mono hbw.size)⟩
end Go.Proofs.Ytmbnnpmmbjdodaa
