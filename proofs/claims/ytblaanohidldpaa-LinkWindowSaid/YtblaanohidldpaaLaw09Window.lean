/- Layer 9: the walk of LinkWindow. Conditions: the slice of acts lies in memory that came in. -/
import Derived.Test.YtblaanohidldpaaLaw09Few
import Derived.Deep.DeepCutAuto
import Derived.Deep.CutBlock
namespace Go.Proofs.Ytblaanohidldpaa.Link
set_option linter.unusedSimpArgs false
set_option linter.unusedVariables false
open Go.RowKit
theorem goes_ok {x : LE} (hx : x.Ok) {j : Nat} {f : Fr} (hf : x.goes[j]? = some f) : f.epoch = x.epoch ∧ f.ack = x.want ∧
    ((f.kind = 1 ∧ ∃ i : Nat, i < x.window ∧ i < x.bodies.length ∧ IntKind.u64.wrap (f.seq - x.first) = (i : Int)) ∨ (f.kind = 2 ∧ x.goes.length = 1)) := by
  have hmem := List.mem_of_getElem? hf
  have hw8 := hx.w8
  unfold LE.goes at hmem
  rcases List.mem_append.1 hmem with h | h
  · unfold LE.datas at h
    obtain ⟨i, hi, rfl⟩ := List.mem_map.1 h
    have hi := List.mem_range'_1.1 hi
    have hom := hx.out_most
    have hm : i < x.window ∧ i < x.bodies.length := by unfold LE.most at hi hom; omega
    refine ⟨rfl, rfl, .inl ⟨rfl, i, hm.1, hm.2, ?_⟩⟩
    show u (u (x.first + (i : Int)) - x.first) = _
    simp only [u_eq]; omega
  · have hlen : x.goes.length = 1 := by
      unfold LE.acks at h
      split at h
      · rename_i hc
        unfold LE.goes LE.datas LE.acks
        rw [if_pos hc, show x.most - x.out = 0 from by omega]; rfl
      · cases h
    unfold LE.acks at h
    split at h
    · simp at h; subst h; exact ⟨rfl, rfl, .inr ⟨rfl, hlen⟩⟩
    · cases h
theorem goes_len {x : LE} (hx : x.Ok) : x.goes.length ≤ x.window := by
  have hw1 := hx.w1
  unfold LE.goes
  rw [List.length_append]
  unfold LE.datas LE.acks
  rw [List.length_map, List.length_range']
  split
  · rw [List.length_singleton]; omega
  · rw [List.length_nil]; unfold LE.most; omega
/-- what stays: the window, the queue, the epoch -/
structure Stay (epoch : Int) (wi q : Nat) (x : LE) : Prop where
  e : x.epoch = epoch
  w : x.window = wi
  q : x.queue = q
theorem Stay.sent {epoch : Int} {wi q : Nat} {x : LE} (h : Stay epoch wi q x) (b : ByteArray) : Stay epoch wi q (x.sent b) := by
  unfold LE.sent; split <;> exact ⟨h.e, h.w, h.q⟩
theorem Stay.gone {epoch : Int} {wi q : Nat} {x : LE} (h : Stay epoch wi q x) : Stay epoch wi q x.gone := ⟨h.e, h.w, h.q⟩
theorem Stay.ticked {epoch : Int} {wi q : Nat} {x : LE} (h : Stay epoch wi q x) : Stay epoch wi q x.ticked := by
  unfold LE.ticked; split <;> (try split) <;> exact ⟨h.e, h.w, h.q⟩
theorem Stay.taken {epoch : Int} {wi q : Nat} {x : LE} (h : Stay epoch wi q x) (f : Fr) : Stay epoch wi q (x.taken f) := by
  have h1 : Stay epoch wi q (x.acked f) := ⟨(LE.acked_epoch f).trans h.e, (LE.acked_window f).trans h.w, (LE.acked_queue f).trans h.q⟩
  unfold LE.taken
  split
  · split
    · split
      · exact ⟨h1.e, h1.w, h1.q⟩
      · exact ⟨h1.e, h1.w, h1.q⟩
    · exact h1
  · exact h
structure WinSt (w : World) (epoch : Int) (wi q : Nat) (wr : World) : Prop where
  all : ∃ x F, EndIs wr w.heap.size F x ∧ Stay epoch wi q x ∧ Below w.heap.size w wr ∧ ∀ k, k ∈ F → w.heap.size ≤ k
set_option maxRecDepth 100000 in
set_option maxHeartbeats 8000000 in
theorem window_walk (epoch first window queue wait : Int) (hu : u first = first) (A : Option Addr) (c : Nat) (l : List Act9) (w : World) (hA : Sl w 0 w.heap.size 9 A l.length (l.flatMap Act9.cells)) (hy : l.length ≤ maxLen) :
    Calls Try.prog 8 #[.int .i64 epoch, .int .u64 first, .int .i64 window, .int .i64 queue, .int .i64 wait, .slice A l.length c] w fun e w' => e = .returned (.bool true) ∧ Below w.heap.size w w' := by
  have hy' := hy
  unfold maxLen at hy
  have HU := Lib.hid hu
  clear hu
  have hq0 : ((clampN queue 0 64 : Nat) : Int) = min (max queue 0) 64 := by unfold clampN; omega
  have hw0 : ((clampN window 1 8 : Nat) : Int) = min (max window 1) 8 := by unfold clampN; omega
  have HQ := Lib.hid hq0
  have HW := Lib.hid hw0
  clear hq0 hw0
  go_enter Try.func8, Try.ntmps8
  go_wp2_with fail
  refine (new_any epoch first window queue wait HU.out _).mono ?_
  rintro e w1 ⟨rfl, h1, hb1⟩
  have hst : Stay epoch (clampN window 1 8) (clampN queue 0 64) (new epoch first window queue wait) := ⟨rfl, rfl, rfl⟩
  generalize new epoch first window queue wait = x0 at *
  generalize clampN queue 0 64 = q at *
  generalize clampN window 1 8 = wi at *
  go_wp2_with fail
  refine (awake_any _).mono ?_
  rintro e w2 ⟨rfl, hb2⟩
  have h2 := h1.after hb2
  have hbw := hb1.trans (hb2.mono hb1.size)
  have hA2 := hA.below hbw (Nat.le_refl _)
  clear h1
  go_wp2_with fail
  refine (few_any hA2 hy').mono ?_
  rintro e w3 ⟨⟨b, rfl, hfew⟩, rfl⟩
  have HFEW := Lib.hid hfew
  clear hfew
  cases b
  · go_wp2_with fail
    refine (awake_any _).mono ?_
    rintro e w3 ⟨rfl, hb3⟩
    go_wp2_with fail
    go_ret
    exact ⟨rfl, hbw.trans (hb3.mono hbw.size)⟩
  · obtain ⟨h80, hshort⟩ := HFEW.out rfl
    clear hshort
    have hws : WinSt w epoch wi q w2 := ⟨x0, _, h2, hst, hbw, by simp⟩
    have HWS := Lib.hid hws
    clear hws h2 hst
    go_wp2_with fail
    go_loopw [14] (fun i wr => ∃ k : Nat, k ≤ l.length ∧ i = .int .i64 (k : Int) ∧ WinSt w epoch wi q wr) (fun i _ => l.length - (intOf i).toNat)
    case atStart => exact ⟨0, Nat.zero_le _, rfl, HWS.out⟩
    case round =>
      obtain ⟨k, hk, rfl, hr⟩ := hrel
      obtain ⟨x, F, hx, hs, hb, hF⟩ := hr.all
      have HS := Lib.hid hs
      have HF := Lib.hid hF
      clear hs hF hr
      by_cases hlt : k < l.length
      · have hA1 := hA.below hb (Nat.le_refl _)
        obtain ⟨g, o, rfl, _, hgl, hat⟩ := acts_at hA1 hlt
        have i0' : (0 : Int) ≤ (k : Int) := by omega
        have i1 : (k : Int) < (l.length : Int) := by omega
        have hbs2 := hb.size
        have hgF : g ∉ F := fun hm => by have := HF.out g hm; omega
        have HAT := Lib.hid hat
        have c0 := hat.c0
        clear hat
        generalize l[k] = a at *
        obtain ⟨K, hKe⟩ : ∃ K, a.K = K := ⟨_, rfl⟩
        rw [hKe] at c0
        clear hKe
        go_upto_block 2 with fail
        go_cut [60] (fun _s wx => WinSt w epoch wi q wx)
        case first =>
          have hs := HS.out
          have hxw := hs.w
          have hxe := hs.e
          have HXW := Lib.hid hxw
          have HXE := Lib.hid hxe
          clear hs hxw hxe
          by_cases hK0 : K = 0
          · subst hK0
            have c3 := HAT.out.c3
            go_wp2_with fail
            refine (send_any hx a.S).mono ?_
            rintro e w4 ⟨rfl, F4, hx4, ht4⟩
            obtain ⟨u1, u2⟩ := ht4.below (B := w.heap.size) hbs2 HF.out
            go_wp2_with fail
            go_meet
            exact ⟨x.sent a.S, F4, hx4, HS.out.sent _, hb.trans u1, u2⟩
          · have q0 : (K == 0) = false := beq_eq_false_iff_ne.2 hK0
            by_cases hK1 : K = 1
            · subst hK1
              go_wp2_with fail
              refine (numbers_any hx).mono ?_
              rintro e w5 ⟨rfl, n5, rfl⟩
              go_wp2_with fail
              refine (waiting_any (hx.drewN n5)).mono ?_
              rintro e w6 ⟨rfl, rfl⟩
              go_wp2_with fail
              refine (out_any (hx.drewN n5)).mono ?_
              rintro e w6 ⟨A6, c6, G6, rfl, hv6, hG6, hx6, ht6⟩
              obtain ⟨u1, u2⟩ := ht6.below (B := w.heap.size) hbs2 HF.out
              have hok := hx.ok
              have hgo : ∀ j f, x.goes[j]? = some f → _ := fun j f => goes_ok hok (j := j) (f := f)
              have HGO := Lib.hid hgo
              have hgl := goes_len hok
              have hlen64 : x.bodies.length ≤ 64 := Nat.le_trans hok.len hok.q64
              have hfrs := vec_frame hv6
              have HFRS := Lib.hid hfrs
              rw [HXW.out] at hgl
              clear hgo hfrs hv6 hok
              have hconv := conv_in (x.bodies.length : Int) (by omega) (by omega)
              have hwin : (window < 1 ∧ wi = 1) ∨ (1 ≤ window ∧ window ≤ 8 ∧ (wi : Int) = window) ∨ (8 < window ∧ wi = 8) := by have := HW.out; omega
              have HNN := Lib.hid (show ∀ j, j < x.goes.length → ∃ f, x.goes[j]? = some f from fun j hj => ⟨_, List.getElem?_eq_getElem hj⟩)
              have hgn : ∃ n, x.goes.length = n := ⟨_, rfl⟩
              obtain ⟨n, hgn⟩ := hgn
              rw [hgn] at hgl ⊢
              have HGN := Lib.hid hgn
              clear hgn
              rcases hwin with ⟨v1, v2⟩ | ⟨v1, v2, v3⟩ | ⟨v1, v2⟩
              · have v4 : decide (1 < (n : Int)) = false := by simp; omega
                go_wp2_with fail
                go_loop [19] (fun j => ∃ m : Nat, m ≤ n ∧ j = .int .i64 (m : Int)) (fun j => n - (intOf j).toNat)
                case atStart => exact ⟨0, Nat.zero_le _, rfl⟩
                case round =>
                  obtain ⟨m, hm, rfl⟩ := hrel
                  by_cases hmn : m < n
                  · obtain ⟨f, hf⟩ := HNN.out m (by rw [HGN.out]; exact hmn)
                    obtain ⟨y1, y2, y3⟩ := HGO.out m f hf
                    rcases HFRS.out with e0 | ⟨g6, o6, rfl, _, _, hfr6⟩
                    · rw [e0] at hf; cases hf
                    · obtain ⟨k0, k1, k2, k3, _⟩ := hfr6 m f hf
                      rw [y1, HXE.out] at k1
                      rw [y2] at k3
                      have j0 : (0 : Int) ≤ (m : Int) := by omega
                      have j1 : (m : Int) < (n : Int) := by omega
                      clear y1 y2 hf hfr6
                      rcases y3 with ⟨z1, i, z2, z3, z4⟩ | ⟨z1, z2⟩
                      · rw [z1] at k0
                        rw [HXW.out] at z2
                        have z5 : decide (1 ≤ (i : Int)) = false := by simp; omega
                        have z6 : decide (x.bodies.length ≤ i) = false := by simp; omega
                        generalize f.seq = sq at *
                        clear z1
                        go_upto_region 20 with fail
                        simp only [List.append]
                        go_wp2_with fail
                        go_round
                        case rel => exact ⟨m + 1, hmn, by go_num⟩
                        case measure => simp [intOf]; omega
                      · rw [z1] at k0
                        rw [HGN.out] at z2
                        clear z1
                        subst z2
                        go_upto_region 20 with fail
                        simp only [List.append]
                        go_wp2_with fail
                        go_round
                        case rel => exact ⟨m + 1, hmn, by go_num⟩
                        case measure => simp [intOf]; omega
                  · obtain rfl : m = n := by omega
                    go_wp2_with fail
                    go_meet
                    exact ⟨x.gone, F, hx6, HS.out.gone, (below_drewN hb n5).trans u1, u2⟩
              · have v4 : decide (window < (n : Int)) = false := by simp; omega
                have v5 := conv_in window (by omega) (by omega)
                have v6 : (wi : Int) ≤ window := by omega
                clear v3
                go_wp2_with fail
                go_loop [19] (fun j => ∃ m : Nat, m ≤ n ∧ j = .int .i64 (m : Int)) (fun j => n - (intOf j).toNat)
                case atStart => exact ⟨0, Nat.zero_le _, rfl⟩
                case round =>
                  obtain ⟨m, hm, rfl⟩ := hrel
                  by_cases hmn : m < n
                  · obtain ⟨f, hf⟩ := HNN.out m (by rw [HGN.out]; exact hmn)
                    obtain ⟨y1, y2, y3⟩ := HGO.out m f hf
                    rcases HFRS.out with e0 | ⟨g6, o6, rfl, _, _, hfr6⟩
                    · rw [e0] at hf; cases hf
                    · obtain ⟨k0, k1, k2, k3, _⟩ := hfr6 m f hf
                      rw [y1, HXE.out] at k1
                      rw [y2] at k3
                      have j0 : (0 : Int) ≤ (m : Int) := by omega
                      have j1 : (m : Int) < (n : Int) := by omega
                      clear y1 y2 hf hfr6
                      rcases y3 with ⟨z1, i, z2, z3, z4⟩ | ⟨z1, z2⟩
                      · rw [z1] at k0
                        rw [HXW.out] at z2
                        have z5 : decide (window ≤ (i : Int)) = false := by simp; omega
                        have z6 : decide (x.bodies.length ≤ i) = false := by simp; omega
                        generalize f.seq = sq at *
                        clear z1
                        go_upto_region 20 with fail
                        simp only [List.append]
                        go_wp2_with fail
                        go_round
                        case rel => exact ⟨m + 1, hmn, by go_num⟩
                        case measure => simp [intOf]; omega
                      · rw [z1] at k0
                        rw [HGN.out] at z2
                        clear z1
                        subst z2
                        go_upto_region 20 with fail
                        simp only [List.append]
                        go_wp2_with fail
                        go_round
                        case rel => exact ⟨m + 1, hmn, by go_num⟩
                        case measure => simp [intOf]; omega
                  · obtain rfl : m = n := by omega
                    go_wp2_with fail
                    go_meet
                    exact ⟨x.gone, F, hx6, HS.out.gone, (below_drewN hb n5).trans u1, u2⟩
              · have v4 : decide (8 < (n : Int)) = false := by simp; omega
                go_wp2_with fail
                go_loop [19] (fun j => ∃ m : Nat, m ≤ n ∧ j = .int .i64 (m : Int)) (fun j => n - (intOf j).toNat)
                case atStart => exact ⟨0, Nat.zero_le _, rfl⟩
                case round =>
                  obtain ⟨m, hm, rfl⟩ := hrel
                  by_cases hmn : m < n
                  · obtain ⟨f, hf⟩ := HNN.out m (by rw [HGN.out]; exact hmn)
                    obtain ⟨y1, y2, y3⟩ := HGO.out m f hf
                    rcases HFRS.out with e0 | ⟨g6, o6, rfl, _, _, hfr6⟩
                    · rw [e0] at hf; cases hf
                    · obtain ⟨k0, k1, k2, k3, _⟩ := hfr6 m f hf
                      rw [y1, HXE.out] at k1
                      rw [y2] at k3
                      have j0 : (0 : Int) ≤ (m : Int) := by omega
                      have j1 : (m : Int) < (n : Int) := by omega
                      clear y1 y2 hf hfr6
                      rcases y3 with ⟨z1, i, z2, z3, z4⟩ | ⟨z1, z2⟩
                      · rw [z1] at k0
                        rw [HXW.out] at z2
                        have z5 : decide (8 ≤ (i : Int)) = false := by simp; omega
                        have z6 : decide (x.bodies.length ≤ i) = false := by simp; omega
                        generalize f.seq = sq at *
                        clear z1
                        go_upto_region 20 with fail
                        simp only [List.append]
                        go_wp2_with fail
                        go_round
                        case rel => exact ⟨m + 1, hmn, by go_num⟩
                        case measure => simp [intOf]; omega
                      · rw [z1] at k0
                        rw [HGN.out] at z2
                        clear z1
                        subst z2
                        go_upto_region 20 with fail
                        simp only [List.append]
                        go_wp2_with fail
                        go_round
                        case rel => exact ⟨m + 1, hmn, by go_num⟩
                        case measure => simp [intOf]; omega
                  · obtain rfl : m = n := by omega
                    go_wp2_with fail
                    go_meet
                    exact ⟨x.gone, F, hx6, HS.out.gone, (below_drewN hb n5).trans u1, u2⟩
            · have q1 : (K == 1) = false := beq_eq_false_iff_ne.2 hK1
              by_cases hK2 : K = 2
              · subst hK2
                go_wp2_with fail
                refine (tick_any hx).mono ?_
                rintro e w4 ⟨rfl, hx4, ht4⟩
                obtain ⟨u1, u2⟩ := ht4.below (B := w.heap.size) hbs2 HF.out
                go_wp2_with fail
                go_meet
                exact ⟨x.ticked, F, hx4, HS.out.ticked, hb.trans u1, u2⟩
              · have q2 : (K == 2) = false := beq_eq_false_iff_ne.2 hK2
                obtain ⟨_, _, _, _, k4, k5, k6, k7, k8⟩ := HAT.out
                go_wp2_with fail
                refine (take_any hx a.F).mono ?_
                rintro e w4 ⟨rfl, hx4, ht4⟩
                obtain ⟨u1, u2⟩ := ht4.below (B := w.heap.size) hbs2 HF.out
                go_wp2_with fail
                go_meet
                exact ⟨x.taken a.F, F, hx4, HS.out.taken _, hb.trans u1, u2⟩
        case rest =>
          obtain ⟨x', F', hx', hs', hb', hF'⟩ := hcut.all
          have hl := hx'.ok.len
          have hq' := hs'.q
          rw [hq'] at hl
          have HS' := Lib.hid hs'
          have HF' := Lib.hid hF'
          have HC := Lib.hid hcut
          clear hq' hs' hF' hcut
          have hql : (queue < 0 ∧ x'.bodies.length = 0) ∨ (0 ≤ queue ∧ queue ≤ 64 ∧ (x'.bodies.length : Int) ≤ queue) ∨ (64 < queue ∧ x'.bodies.length ≤ 64) := by have := HQ.out; omega
          go_wp2_with fail
          refine (waiting_any hx').mono ?_
          rintro e w4 ⟨rfl, rfl⟩
          rcases hql with ⟨v1, v2⟩ | ⟨v1, v2, v3⟩ | ⟨v1, v2⟩
          all_goals
            go_wp2_with fail
            go_roundw
            case rel => exact ⟨k + 1, hlt, by go_num, HC.out⟩
            case measure => simp [intOf]; omega
      · obtain rfl : k = l.length := by omega
        go_wp2_with fail
        go_ret
        exact ⟨rfl, hb⟩
end Go.Proofs.Ytblaanohidldpaa.Link
