/- Layer 8: the walk of NetDoes. Conditions: the slice of acts lies in memory that came in. -/
import Derived.Test.YtndiclkfincbgaaNetDoe
import Derived.Deep.CutBlock
namespace Go.Proofs.Ytndiclkfincbgaa.Net
set_option linter.unusedSimpArgs false
set_option linter.unusedVariables false
open Go.RowKit
set_option maxRecDepth 100000 in
set_option maxHeartbeats 32000000 in
theorem does_walk (n room : Int) (A : Option Addr) (c : Nat) (l : List Act8) (w : World) (hA : Sl w 0 w.heap.size 6 A l.length (l.flatMap Act8.cells)) (hy : l.length ≤ maxLen) (hgood : ∀ a ∈ l, a.Good) :
    Calls Try.prog 3 #[.int .i64 n, .int .i64 room, .slice A l.length c] w fun e w' => e = .returned (.bool true) ∧ Below w.heap.size w w' := by
  have hy' := hy
  unfold maxLen at hy
  have HGOOD := Lib.hid hgood
  clear hgood
  go_enter Try.func3, Try.ntmps3
  go_wp2_with fail
  refine (new_any n room _).mono ?_
  rintro e w1 ⟨p, F, rfl, hn, hF, hb⟩
  have HS := Lib.hid (show Stand w p (new n room) F w1 from ⟨hn, hF, hb⟩)
  clear hn hF hb
  go_wp2_with fail
  refine (awake_any _).mono ?_
  rintro e w2 ⟨rfl, hb2⟩
  have HS := Lib.hid (HS.out.after (HS.out.net.after hb2) hb2)
  clear hb2
  go_wp2_with fail
  refine (few_any (hA.below HS.out.below (Nat.le_refl _)) hy').mono ?_
  rintro e w3 ⟨⟨b0, rfl, hfew⟩, rfl⟩
  have HFEW := Lib.hid hfew
  clear hfew
  cases b0
  · go_wp2_with fail
    refine (awake_any _).mono ?_
    rintro e w3 ⟨rfl, hb3⟩
    have HS3 := Lib.hid (HS.out.after (HS.out.net.after hb3) hb3)
    clear hb3
    go_wp2_with fail
    go_ret
    exact ⟨rfl, HS3.out.below⟩
  · obtain ⟨h60, hshort⟩ := HFEW.out rfl
    have HSHORT := Lib.hid hshort
    clear hshort
    go_wp2_with fail
    refine (ref_new n room _).mono ?_
    rintro e w4 ⟨y, rfl, hr4, hb4⟩
    have hyv := hr4.v
    subst hyv
    have hs4 := HS.out.after (HS.out.net.after hb4) hb4
    have hsm : (new n room).Small := fun _ _ _ h => by simp [new] at h
    generalize new n room = s0 at *
    have hb5 : Below w4.heap.size w4 (w4.alloc (.cells #[.int .i64 (s0.n : Int), .int .i64 (s0.m : Int), .slice none ([] : List Way).length 0] 29)) := (Below.refl _ _).alloc (Nat.le_refl _) _
    have hst : Both w p w4.heap.size 0 (w4.alloc (.cells #[.int .i64 (s0.n : Int), .int .i64 (s0.m : Int), .slice none ([] : List Way).length 0] 29)) :=
      ⟨s0, F, [], none, 0, [], ⟨hs4.after (hs4.net.after hb5) hb5, heap_alloc_new w4 _, hr4.after hb5, fun hm => Nat.lt_irrefl _ (hs4.net.lt hm), by simp, by simp, hs4.below.size⟩, hsm, by simp⟩
    have HST := Lib.hid hst
    clear hst hsm hs4 hb5 hr4 hb4
    simp only [List.length_nil] at HST ⊢
    go_wp2_with fail
    generalize w4.heap.size = B at *
    go_loopw [9] (fun i wr => ∃ k : Nat, k ≤ l.length ∧ i = .int .i64 (k : Int) ∧ Both w p B k wr) (fun i _ => l.length - (intOf i).toNat)
    case atStart => exact ⟨0, Nat.zero_le _, rfl, HST.out⟩
    case round =>
      obtain ⟨k, hk, rfl, hr⟩ := hrel
      obtain ⟨s, F, G, W, c', ws, hpic, hsm, hwl⟩ := hr.all
      have HP := Lib.hid hpic
      have HSM := Lib.hid hsm
      clear hr hpic hsm
      by_cases hlt : k < l.length
      · have hA1 := hA.below HP.out.st.below (Nat.le_refl _)
        obtain ⟨g, o, rfl, _, hgl, hat⟩ := acts_at hA1 hlt
        have i0' : (0 : Int) ≤ (k : Int) := by omega
        have i1 : (k : Int) < (l.length : Int) := by omega
        have hsh := HSHORT.out l[k] (List.getElem_mem hlt)
        have HGA := Lib.hid (HGOOD.out l[k] (List.getElem_mem hlt))
        have HAT := Lib.hid hat
        clear hat
        generalize l[k] = a at *
        obtain ⟨K, A, B', N, X, S⟩ := a
        obtain ⟨c0, c1, c2, c3, c4, c5⟩ := HAT.out
        simp only at c0 c1 c2 c3 c4 c5 hsh
        have HSH := Lib.hid hsh
        have hbx : Below wr.heap.size wr (wr.alloc (.cells #[.int .i64 K, .int .i64 A, .int .i64 B', .int .i64 N, .int .i64 X, .string S] 32)) := (Below.refl _ _).alloc (Nat.le_refl _) _
        have HPB := Lib.hid (show PicB w p B wr.heap.size ⟨K, A, B', N, X, S⟩ s s F G W c' ws (wr.alloc (.cells #[.int .i64 K, .int .i64 A, .int .i64 B', .int .i64 N, .int .i64 X, .string S] 32)) from
          ⟨HP.out.after hbx, heap_alloc_new wr _, fun h => Nat.lt_irrefl _ (HP.out.st.net.lt h), fun h => by have := lt_of_block HP.out.box; omega⟩)
        clear hsh hbx
        go_wp2_with fail
        refine (act_any HPB.out.pic.st.net HSM.out ⟨K, A, B', N, X, S⟩).mono ?_
        rintro e w6 ⟨rfl, F6, hn6, ht6⟩
        have HP6 := Lib.hid (HPB.out.turn hn6 ht6)
        have HSM6 := Lib.hid (HSM.out.act ⟨K, A, B', N, X, S⟩ HSH.out)
        clear hn6 ht6 c0 c1 c2 c3 c4 c5 HPB
        generalize wr.heap.size = b at *
        obtain ⟨x0, x1, x2, x3, x4, x5⟩ := HP6.out.six
        simp only at x0 x1 x2 x3 x4 x5
        go_upto_block 2 with fail
        go_cut [13, 14] (fun s13 s14 wx => s13 = .string (s.actS ⟨K, A, B', N, X, S⟩) ∧ s14 = .bool (s.actOk ⟨K, A, B', N, X, S⟩) ∧ BothB w p B b ⟨K, A, B', N, X, S⟩ (s.act ⟨K, A, B', N, X, S⟩) (k + 1) wx)
        case first =>
          obtain ⟨b0, b1, b2, _, _, _⟩ := three HP6.out.pic.box
          by_cases h0 : K = 0
          · subst h0
            obtain ⟨t7, ht7⟩ : ∃ t7, s.send A B' S = t7 := ⟨_, rfl⟩
            have HTT := Lib.hid (show t7 = s.act ⟨0, A, B', N, X, S⟩ from ht7.symm.trans rfl)
            have HS3 := Lib.hid (show s.actS ⟨0, A, B', N, X, S⟩ = ⟨#[]⟩ from rfl)
            have HS4 := Lib.hid (show s.actOk ⟨0, A, B', N, X, S⟩ = s.sendOk A B' from rfl)
            have HT7 := Lib.hid ht7
            clear ht7
            go_wp2_with fail
            refine (ref_send HP6.out.pic.ref A B' S (by omega)).mono ?_
            rw [HT7.out]
            rintro e w7 ⟨v7, W7, c7, ws7, G7, rfl, h7, hl7, hG7, hb7⟩
            have hv7 := h7.v
            subst hv7
            have H7 := Lib.hid h7
            have HG7 := Lib.hid hG7
            have HB7 := Lib.hid hb7
            have hbox7 := (hb7.block B (lt_of_block HP6.out.pic.box)).trans HP6.out.pic.box
            have HBOX7 := Lib.hid hbox7
            clear b0 b1 b2 x0 x1 x2 x3 x4 x5 h7 hG7 hb7
            obtain ⟨_, _, _, g0, g1, g2⟩ := three hbox7
            have hq := three_set HBOX7.out (.int .i64 (t7.n : Int)) (.int .i64 (t7.m : Int)) (.slice W7 ws7.length c7)
            have HFIN := Lib.hid (PicB.both (n := k + 1) (HP6.out.put HB7.out H7.out HG7.out hq.1 hq.2) HTT.out (by omega))
            clear hbox7 hq
            go_wp2_with fail
            go_meet
            exact ⟨by rw [HS3.out], by rw [HS4.out], HFIN.out⟩
          · have q0 : (K == 0) = false := beq_eq_false_iff_ne.2 h0
            by_cases h1 : K = 1
            · subst h1
              obtain ⟨t7, ht7⟩ : ∃ t7, s.deliver A B' N = t7 := ⟨_, rfl⟩
              have HTT := Lib.hid (show t7 = s.act ⟨1, A, B', N, X, S⟩ from ht7.symm.trans rfl)
              have HS3 := Lib.hid (show s.actS ⟨1, A, B', N, X, S⟩ = s.look A B' N from rfl)
              have HS4 := Lib.hid (show s.actOk ⟨1, A, B', N, X, S⟩ = s.isAt A B' N from rfl)
              have HT7 := Lib.hid ht7
              clear ht7
              go_wp2_with fail
              refine (ref_deliver HP6.out.pic.ref A B' N (by omega)).mono ?_
              rw [HT7.out]
              rintro e w7 ⟨v7, W7, c7, ws7, G7, rfl, h7, hl7, hG7, hb7⟩
              have hv7 := h7.v
              subst hv7
              have H7 := Lib.hid h7
              have HG7 := Lib.hid hG7
              have HB7 := Lib.hid hb7
              have hbox7 := (hb7.block B (lt_of_block HP6.out.pic.box)).trans HP6.out.pic.box
              have HBOX7 := Lib.hid hbox7
              clear b0 b1 b2 x0 x1 x2 x3 x4 x5 h7 hG7 hb7
              obtain ⟨_, _, _, g0, g1, g2⟩ := three hbox7
              have hq := three_set HBOX7.out (.int .i64 (t7.n : Int)) (.int .i64 (t7.m : Int)) (.slice W7 ws7.length c7)
              have HFIN := Lib.hid (PicB.both (n := k + 1) (HP6.out.put HB7.out H7.out HG7.out hq.1 hq.2) HTT.out (by omega))
              clear hbox7 hq
              go_wp2_with fail
              go_meet
              exact ⟨by rw [HS3.out], by rw [HS4.out], HFIN.out⟩
            · have q1 : (K == 1) = false := beq_eq_false_iff_ne.2 h1
              by_cases h2 : K = 2
              · subst h2
                obtain ⟨t7, ht7⟩ : ∃ t7, s.double A B' N = t7 := ⟨_, rfl⟩
                have HTT := Lib.hid (show t7 = s.act ⟨2, A, B', N, X, S⟩ from ht7.symm.trans rfl)
                have HS3 := Lib.hid (show s.actS ⟨2, A, B', N, X, S⟩ = ⟨#[]⟩ from rfl)
                have HS4 := Lib.hid (show s.actOk ⟨2, A, B', N, X, S⟩ = s.doubleOk A B' N from rfl)
                have HT7 := Lib.hid ht7
                clear ht7
                go_wp2_with fail
                refine (ref_double HP6.out.pic.ref A B' N (by omega)).mono ?_
                rw [HT7.out]
                rintro e w7 ⟨v7, W7, c7, ws7, G7, rfl, h7, hl7, hG7, hb7⟩
                have hv7 := h7.v
                subst hv7
                have H7 := Lib.hid h7
                have HG7 := Lib.hid hG7
                have HB7 := Lib.hid hb7
                have hbox7 := (hb7.block B (lt_of_block HP6.out.pic.box)).trans HP6.out.pic.box
                have HBOX7 := Lib.hid hbox7
                clear b0 b1 b2 x0 x1 x2 x3 x4 x5 h7 hG7 hb7
                obtain ⟨_, _, _, g0, g1, g2⟩ := three hbox7
                have hq := three_set HBOX7.out (.int .i64 (t7.n : Int)) (.int .i64 (t7.m : Int)) (.slice W7 ws7.length c7)
                have HFIN := Lib.hid (PicB.both (n := k + 1) (HP6.out.put HB7.out H7.out HG7.out hq.1 hq.2) HTT.out (by omega))
                clear hbox7 hq
                go_wp2_with fail
                go_meet
                exact ⟨by rw [HS3.out], by rw [HS4.out], HFIN.out⟩
              · have q2 : (K == 2) = false := beq_eq_false_iff_ne.2 h2
                have a1 : s.flip A B' N X = s.act ⟨K, A, B', N, X, S⟩ := by simp only [NS.act]; rw [if_neg h0, if_neg h1, if_neg h2]
                have a2 : s.actS ⟨K, A, B', N, X, S⟩ = ⟨#[]⟩ := by simp only [NS.actS]; rw [if_neg h1]
                have a3 : s.actOk ⟨K, A, B', N, X, S⟩ = s.flipOk A B' N := by simp only [NS.actOk]; rw [if_neg h0, if_neg h1, if_neg h2]
                have A1 := Lib.hid a1
                have A2 := Lib.hid a2
                have A3 := Lib.hid a3
                clear h0 h1 h2 a1 a2 a3
                obtain ⟨t7, ht7⟩ : ∃ t7, s.flip A B' N X = t7 := ⟨_, rfl⟩
                have HTT := Lib.hid (show t7 = s.act ⟨K, A, B', N, X, S⟩ from ht7.symm.trans A1.out)
                have HS3 := Lib.hid (show s.actS ⟨K, A, B', N, X, S⟩ = ⟨#[]⟩ from A2.out)
                have HS4 := Lib.hid (show s.actOk ⟨K, A, B', N, X, S⟩ = s.flipOk A B' N from A3.out)
                have HT7 := Lib.hid ht7
                clear ht7
                go_wp2_with fail
                refine (ref_flip HP6.out.pic.ref A B' N X HGA.out.2.1 HGA.out.2.2 (Nat.le_trans (HSM.out.look A B' N) (by omega)) (by omega)).mono ?_
                rw [HT7.out]
                rintro e w7 ⟨v7, W7, c7, ws7, G7, rfl, h7, hl7, hG7, hb7⟩
                have hv7 := h7.v
                subst hv7
                have H7 := Lib.hid h7
                have HG7 := Lib.hid hG7
                have HB7 := Lib.hid hb7
                have hbox7 := (hb7.block B (lt_of_block HP6.out.pic.box)).trans HP6.out.pic.box
                have HBOX7 := Lib.hid hbox7
                clear b0 b1 b2 x0 x1 x2 x3 x4 x5 h7 hG7 hb7
                obtain ⟨_, _, _, g0, g1, g2⟩ := three hbox7
                have hq := three_set HBOX7.out (.int .i64 (t7.n : Int)) (.int .i64 (t7.m : Int)) (.slice W7 ws7.length c7)
                have HFIN := Lib.hid (PicB.both (n := k + 1) (HP6.out.put HB7.out H7.out HG7.out hq.1 hq.2) HTT.out (by omega))
                clear hbox7 hq
                go_wp2_with fail
                go_meet
                exact ⟨by rw [HS3.out], by rw [HS4.out], HFIN.out⟩
        case rest =>
          obtain ⟨rfl, rfl, hbb⟩ := hcut
          obtain ⟨F7, G7, W7, c7, ws7, hp7, hl7⟩ := hbb.all
          have HP7 := Lib.hid hp7
          clear hbb hp7 x0 x1 x2 x3 x4 x5 HP6
          generalize s.act ⟨K, A, B', N, X, S⟩ = s' at *
          generalize s.actS ⟨K, A, B', N, X, S⟩ = ss at *
          generalize s.actOk ⟨K, A, B', N, X, S⟩ = so at *
          obtain ⟨x0, x1, x2, x3, x4, x5⟩ := HP7.out.six
          obtain ⟨b0, b1, b2, _, _, _⟩ := three HP7.out.pic.box
          simp only at x0 x1 x2 x3 x4 x5
          go_wp2_with fail
          refine (ref_row HP7.out.pic.ref A B' (by omega)).mono ?_
          rintro e w8 ⟨A9, c9, K9, rfl, _, _, hb8⟩
          have HP8 := Lib.hid (HP7.out.after hb8)
          obtain ⟨q, hq⟩ : ∃ q : Bool, q = true ↔ s'.quiet := by
            by_cases h : s'.quiet
            · exact ⟨true, by simpa using h⟩
            · exact ⟨false, by simpa using h⟩
          have HQ := Lib.hid hq
          have hcap : (s'.f A B').length ≤ 1000 := by
            have h1 := HP8.out.pic.st.net.ok.room A B'
            have h2 := HP8.out.pic.st.net.ok.m1000
            omega
          generalize hlen : (s'.f A B').length = len at *
          have HLEN := Lib.hid hlen
          clear hb8 x0 x1 x2 x3 x4 x5 b0 b1 b2 hq hlen
          go_wp2_with fail
          refine' wp_flow [only 0 _, only 1 _, only 2 (.bool false), only 3 (.bool false), only 4 _, only 5 _, only 6 (.bool false), only 7 (.bool false), only 8 (.bool false), only 9 _, only 10 _, only 11 (.int .i64 A), only 12 _, only 13 (.int .i64 B'), only 14 (.int .i64 (len : Int)), only 15 _, only 16 (.int .i64 (len : Int)), only 17 (.bool false), only 18 (.bool false), only 19 (.bool false), only 20 _, only 21 (.bool q), only 22 (.agg #[.int .i64 (s'.n : Int), .int .i64 (s'.m : Int), .slice W7 ws7.length c7]), only 23 (.bool q), only 24 (.bool false), only 25 (.bool false)] (fun v => ∃ F8, PicB w p B b ⟨K, A, B', N, X, S⟩ s' s' F8 G7 W7 c7 ws7 v) [[], [], [0, 1], [2], [3], [3], [3, 4, 5], [3, 6], [7], [8], [8], [8, 10], [8], [8, 12], [8, 9, 11, 13], [8], [8, 15], [8, 14, 16], [8, 17], [18], [19], [19, 20], [19], [19, 22], [19, 21, 23], [19, 24]] [[], [], [], [], [], [], [], [], [], [], [], [], [], [], [], [], [], [], [], [], [], [], [], [], [], []] [[], [], [], [], [], [], [], [], [], [], [], [], [], [], [], [], [], [], [], [], [], [], [], [], [], []] [[], [], [], [], [], [], [], [], [], [], [], [], [], [], [], [], [], [], [], [], [], [], [], [], [], []] [] [0, 0, 3, 7, 15, 15, 63, 127, 255, 511, 511, 1535, 511, 4607, 16383, 511, 33279, 131071, 262143, 524287, 1048575, 2097151, 1048575, 5242879, 16777215, 33554431] _ (fun us => ?hfr) (by kernel_rfl) (by kernel_rfl) (by kernel_rfl) ⟨only_still _, only_still _, only_still _, only_still _, only_still _, only_still _, only_still _, only_still _, only_still _, only_still _, only_still _, only_still _, only_still _, only_still _, only_still _, only_still _, only_still _, only_still _, only_still _, only_still _, only_still _, only_still _, only_still _, only_still _, only_still _, only_still _, trivial⟩ (⟨F7, HP8.out.drewN 1⟩) (by simp) (trivial) ?hst ?hla
          case hfr => (simp only [List.cons_append, List.nil_append, putAll, Act.put, List.setIfInBounds_toArray, List.set_cons_zero, List.set_cons_succ, Nat.reduceAdd]; rfl)
          case hst =>
            refine ⟨?_, ?_, ?_, ?_, ?_, ?_, ?_, ?_, ?_, ?_, ?_, ?_, ?_, ?_, ?_, ?_, ?_, ?_, ?_, ?_, ?_, ?_, ?_, ?_, ?_, ?_, trivial⟩
            · intro us v hR hn ho K hK
              clear ho
              obtain ⟨F8, hp8⟩ := id hR; obtain ⟨x0, x1, x2, x3, x4, x5⟩ := hp8.six; obtain ⟨b0, b1, b2, _, _, _⟩ := three hp8.pic.box; simp only at x0 x1 x2 x3 x4 x5
              rw [if_pos (by rfl)]
              go_simp
              refine hK _ _ _ (by simp only [Act.put, List.setIfInBounds_toArray, List.set_cons_zero, List.set_cons_succ, Nat.reduceAdd] <;> rfl) ?_ hR trivial
              refine only_mk (v := v) ?_
              with_reducible rfl
            · intro us v hR hn ho K hK
              clear ho
              obtain ⟨F8, hp8⟩ := id hR; obtain ⟨x0, x1, x2, x3, x4, x5⟩ := hp8.six; obtain ⟨b0, b1, b2, _, _, _⟩ := three hp8.pic.box; simp only at x0 x1 x2 x3 x4 x5
              rw [if_pos (by rfl)]
              go_simp
              refine hK _ _ _ (by simp only [Act.put, List.setIfInBounds_toArray, List.set_cons_zero, List.set_cons_succ, Nat.reduceAdd] <;> rfl) ?_ hR trivial
              refine only_mk (v := v) ?_
              with_reducible rfl
            · intro us v hR hn ho K hK
              obtain ⟨n0, n1, -⟩ := hn
              have n0 : us 0 = _ := n0
              have n1 : us 1 = _ := n1
              clear ho
              obtain ⟨F8, hp8⟩ := id hR; obtain ⟨x0, x1, x2, x3, x4, x5⟩ := hp8.six; obtain ⟨b0, b1, b2, _, _, _⟩ := three hp8.pic.box; simp only at x0 x1 x2 x3 x4 x5
              rw [if_pos (by rfl)]
              go_simp
              refine hK _ _ _ (by simp only [Act.put, List.setIfInBounds_toArray, List.set_cons_zero, List.set_cons_succ, Nat.reduceAdd, n0, n1] <;> rfl) ?_ hR trivial
              refine only_mk (v := v) ?_
              with_reducible rfl
            · intro us v hR hn ho K hK
              obtain ⟨n2, -⟩ := hn
              have n2 : us 2 = _ := n2
              clear ho
              obtain ⟨F8, hp8⟩ := id hR; obtain ⟨x0, x1, x2, x3, x4, x5⟩ := hp8.six; obtain ⟨b0, b1, b2, _, _, _⟩ := three hp8.pic.box; simp only at x0 x1 x2 x3 x4 x5
              rw [if_pos (by rfl)]
              go_simp
              refine hK _ _ _ (by simp only [Act.put, List.setIfInBounds_toArray, List.set_cons_zero, List.set_cons_succ, Nat.reduceAdd, n2] <;> rfl) ?_ hR trivial
              refine only_mk (v := v) ?_
              with_reducible rfl
            · intro us v hR hn ho K hK
              obtain ⟨n3, -⟩ := hn
              have n3 : us 3 = _ := n3
              clear ho
              obtain ⟨F8, hp8⟩ := id hR; obtain ⟨x0, x1, x2, x3, x4, x5⟩ := hp8.six; obtain ⟨b0, b1, b2, _, _, _⟩ := three hp8.pic.box; simp only at x0 x1 x2 x3 x4 x5
              rw [if_pos (by simp [Region.wanted, yielded, n3])]
              go_simp
              refine hK _ _ _ (by simp only [Act.put, List.setIfInBounds_toArray, List.set_cons_zero, List.set_cons_succ, Nat.reduceAdd, n3] <;> rfl) ?_ hR trivial
              refine only_mk (v := v) ?_
              with_reducible rfl
            · intro us v hR hn ho K hK
              obtain ⟨n3, -⟩ := hn
              have n3 : us 3 = _ := n3
              clear ho
              obtain ⟨F8, hp8⟩ := id hR; obtain ⟨x0, x1, x2, x3, x4, x5⟩ := hp8.six; obtain ⟨b0, b1, b2, _, _, _⟩ := three hp8.pic.box; simp only at x0 x1 x2 x3 x4 x5
              rw [if_pos (by simp [Region.wanted, yielded, n3])]
              go_simp
              refine hK _ _ _ (by simp only [Act.put, List.setIfInBounds_toArray, List.set_cons_zero, List.set_cons_succ, Nat.reduceAdd, n3] <;> rfl) ?_ hR trivial
              refine only_mk (v := v) ?_
              with_reducible rfl
            · intro us v hR hn ho K hK
              obtain ⟨n3, n4, n5, -⟩ := hn
              have n3 : us 3 = _ := n3
              have n4 : us 4 = _ := n4
              have n5 : us 5 = _ := n5
              clear ho
              obtain ⟨F8, hp8⟩ := id hR; obtain ⟨x0, x1, x2, x3, x4, x5⟩ := hp8.six; obtain ⟨b0, b1, b2, _, _, _⟩ := three hp8.pic.box; simp only at x0 x1 x2 x3 x4 x5
              rw [if_pos (by simp [Region.wanted, yielded, n3, n4, n5])]
              go_simp
              refine hK _ _ _ (by simp only [Act.put, List.setIfInBounds_toArray, List.set_cons_zero, List.set_cons_succ, Nat.reduceAdd, n3, n4, n5] <;> rfl) ?_ hR trivial
              refine only_mk (v := v) ?_
              with_reducible rfl
            · intro us v hR hn ho K hK
              obtain ⟨n3, n6, -⟩ := hn
              have n3 : us 3 = _ := n3
              have n6 : us 6 = _ := n6
              clear ho
              obtain ⟨F8, hp8⟩ := id hR; obtain ⟨x0, x1, x2, x3, x4, x5⟩ := hp8.six; obtain ⟨b0, b1, b2, _, _, _⟩ := three hp8.pic.box; simp only at x0 x1 x2 x3 x4 x5
              rw [if_pos (by rfl)]
              go_simp
              refine hK _ _ _ (by simp only [Act.put, List.setIfInBounds_toArray, List.set_cons_zero, List.set_cons_succ, Nat.reduceAdd, n3, n6] <;> rfl) ?_ hR trivial
              refine only_mk (v := v) ?_
              with_reducible rfl
            · intro us v hR hn ho K hK
              obtain ⟨n7, -⟩ := hn
              have n7 : us 7 = _ := n7
              clear ho
              obtain ⟨F8, hp8⟩ := id hR; obtain ⟨x0, x1, x2, x3, x4, x5⟩ := hp8.six; obtain ⟨b0, b1, b2, _, _, _⟩ := three hp8.pic.box; simp only at x0 x1 x2 x3 x4 x5
              rw [if_pos (by rfl)]
              go_simp
              refine hK _ _ _ (by simp only [Act.put, List.setIfInBounds_toArray, List.set_cons_zero, List.set_cons_succ, Nat.reduceAdd, n7] <;> rfl) ?_ hR trivial
              refine only_mk (v := v) ?_
              with_reducible rfl
            · intro us v hR hn ho K hK
              obtain ⟨n8, -⟩ := hn
              have n8 : us 8 = _ := n8
              clear ho
              obtain ⟨F8, hp8⟩ := id hR; obtain ⟨x0, x1, x2, x3, x4, x5⟩ := hp8.six; obtain ⟨b0, b1, b2, _, _, _⟩ := three hp8.pic.box; simp only at x0 x1 x2 x3 x4 x5
              rw [if_pos (by simp [Region.wanted, yielded, n8])]
              go_simp
              refine hK _ _ _ (by simp only [Act.put, List.setIfInBounds_toArray, List.set_cons_zero, List.set_cons_succ, Nat.reduceAdd, n8] <;> rfl) ?_ hR trivial
              refine only_mk (v := v) ?_
              with_reducible rfl
            · intro us v hR hn ho K hK
              obtain ⟨n8, -⟩ := hn
              have n8 : us 8 = _ := n8
              clear ho
              obtain ⟨F8, hp8⟩ := id hR; obtain ⟨x0, x1, x2, x3, x4, x5⟩ := hp8.six; obtain ⟨b0, b1, b2, _, _, _⟩ := three hp8.pic.box; simp only at x0 x1 x2 x3 x4 x5
              rw [if_pos (by simp [Region.wanted, yielded, n8])]
              go_simp
              refine hK _ _ _ (by simp only [Act.put, List.setIfInBounds_toArray, List.set_cons_zero, List.set_cons_succ, Nat.reduceAdd, n8] <;> rfl) ?_ hR trivial
              refine only_mk (v := v) ?_
              with_reducible rfl
            · intro us v hR hn ho K hK
              obtain ⟨n8, n10, -⟩ := hn
              have n8 : us 8 = _ := n8
              have n10 : us 10 = _ := n10
              clear ho
              obtain ⟨F8, hp8⟩ := id hR; obtain ⟨x0, x1, x2, x3, x4, x5⟩ := hp8.six; obtain ⟨b0, b1, b2, _, _, _⟩ := three hp8.pic.box; simp only at x0 x1 x2 x3 x4 x5
              rw [if_pos (by simp [Region.wanted, yielded, n8, n10])]
              go_simp
              refine hK _ _ _ (by simp only [Act.put, List.setIfInBounds_toArray, List.set_cons_zero, List.set_cons_succ, Nat.reduceAdd, n8, n10] <;> rfl) ?_ hR trivial
              refine only_mk (v := v) ?_
              with_reducible rfl
            · intro us v hR hn ho K hK
              obtain ⟨n8, -⟩ := hn
              have n8 : us 8 = _ := n8
              clear ho
              obtain ⟨F8, hp8⟩ := id hR; obtain ⟨x0, x1, x2, x3, x4, x5⟩ := hp8.six; obtain ⟨b0, b1, b2, _, _, _⟩ := three hp8.pic.box; simp only at x0 x1 x2 x3 x4 x5
              rw [if_pos (by simp [Region.wanted, yielded, n8])]
              go_simp
              refine hK _ _ _ (by simp only [Act.put, List.setIfInBounds_toArray, List.set_cons_zero, List.set_cons_succ, Nat.reduceAdd, n8] <;> rfl) ?_ hR trivial
              refine only_mk (v := v) ?_
              with_reducible rfl
            · intro us v hR hn ho K hK
              obtain ⟨n8, n12, -⟩ := hn
              have n8 : us 8 = _ := n8
              have n12 : us 12 = _ := n12
              clear ho
              obtain ⟨F8, hp8⟩ := id hR; obtain ⟨x0, x1, x2, x3, x4, x5⟩ := hp8.six; obtain ⟨b0, b1, b2, _, _, _⟩ := three hp8.pic.box; simp only at x0 x1 x2 x3 x4 x5
              rw [if_pos (by simp [Region.wanted, yielded, n8, n12])]
              go_simp
              refine hK _ _ _ (by simp only [Act.put, List.setIfInBounds_toArray, List.set_cons_zero, List.set_cons_succ, Nat.reduceAdd, n8, n12] <;> rfl) ?_ hR trivial
              refine only_mk (v := v) ?_
              with_reducible rfl
            · intro us v hR hn ho K hK
              obtain ⟨n8, n9, n11, n13, -⟩ := hn
              have n8 : us 8 = _ := n8
              have n9 : us 9 = _ := n9
              have n11 : us 11 = _ := n11
              have n13 : us 13 = _ := n13
              clear ho
              obtain ⟨F8, hp8⟩ := id hR; obtain ⟨x0, x1, x2, x3, x4, x5⟩ := hp8.six; obtain ⟨b0, b1, b2, _, _, _⟩ := three hp8.pic.box; simp only at x0 x1 x2 x3 x4 x5
              rw [if_pos (by simp [Region.wanted, yielded, n8])]
              clear x0 x1 x2 x3 x4 x5 b0 b1 b2
              go_simp
              refine (count_any hp8.pic.st.net A B').mono ?_
              rintro e v' ⟨rfl, F9, hn9, ht9⟩
              dsimp only
              exact hK _ _ _ (by simp only [Act.put, List.setIfInBounds_toArray, List.set_cons_zero, List.set_cons_succ, Nat.reduceAdd, n8, n9, n11, n13, n8] <;> rfl) (only_mk (v := v) (by rw [HLEN.out])) ⟨F9, hp8.turn hn9 ht9⟩ trivial
            · intro us v hR hn ho K hK
              obtain ⟨n8, -⟩ := hn
              have n8 : us 8 = _ := n8
              clear ho
              obtain ⟨F8, hp8⟩ := id hR; obtain ⟨x0, x1, x2, x3, x4, x5⟩ := hp8.six; obtain ⟨b0, b1, b2, _, _, _⟩ := three hp8.pic.box; simp only at x0 x1 x2 x3 x4 x5
              rw [if_pos (by simp [Region.wanted, yielded, n8])]
              go_simp
              refine hK _ _ _ (by simp only [Act.put, List.setIfInBounds_toArray, List.set_cons_zero, List.set_cons_succ, Nat.reduceAdd, n8] <;> rfl) ?_ hR trivial
              refine only_mk (v := v) ?_
              with_reducible rfl
            · intro us v hR hn ho K hK
              obtain ⟨n8, n15, -⟩ := hn
              have n8 : us 8 = _ := n8
              have n15 : us 15 = _ := n15
              clear ho
              obtain ⟨F8, hp8⟩ := id hR; obtain ⟨x0, x1, x2, x3, x4, x5⟩ := hp8.six; obtain ⟨b0, b1, b2, _, _, _⟩ := three hp8.pic.box; simp only at x0 x1 x2 x3 x4 x5
              rw [if_pos (by simp [Region.wanted, yielded, n8, n15])]
              go_simp
              refine hK _ _ _ (by simp only [Act.put, List.setIfInBounds_toArray, List.set_cons_zero, List.set_cons_succ, Nat.reduceAdd, n8, n15] <;> rfl) ?_ hR trivial
              refine only_mk (v := v) ?_
              with_reducible rfl
            · intro us v hR hn ho K hK
              obtain ⟨n8, n14, n16, -⟩ := hn
              have n8 : us 8 = _ := n8
              have n14 : us 14 = _ := n14
              have n16 : us 16 = _ := n16
              clear ho
              obtain ⟨F8, hp8⟩ := id hR; obtain ⟨x0, x1, x2, x3, x4, x5⟩ := hp8.six; obtain ⟨b0, b1, b2, _, _, _⟩ := three hp8.pic.box; simp only at x0 x1 x2 x3 x4 x5
              rw [if_pos (by simp [Region.wanted, yielded, n8, n14, n16])]
              go_simp
              refine hK _ _ _ (by simp only [Act.put, List.setIfInBounds_toArray, List.set_cons_zero, List.set_cons_succ, Nat.reduceAdd, n8, n14, n16] <;> rfl) ?_ hR trivial
              refine only_mk (v := v) ?_
              with_reducible rfl
            · intro us v hR hn ho K hK
              obtain ⟨n8, n17, -⟩ := hn
              have n8 : us 8 = _ := n8
              have n17 : us 17 = _ := n17
              clear ho
              obtain ⟨F8, hp8⟩ := id hR; obtain ⟨x0, x1, x2, x3, x4, x5⟩ := hp8.six; obtain ⟨b0, b1, b2, _, _, _⟩ := three hp8.pic.box; simp only at x0 x1 x2 x3 x4 x5
              rw [if_pos (by rfl)]
              go_simp
              refine hK _ _ _ (by simp only [Act.put, List.setIfInBounds_toArray, List.set_cons_zero, List.set_cons_succ, Nat.reduceAdd, n8, n17] <;> rfl) ?_ hR trivial
              refine only_mk (v := v) ?_
              with_reducible rfl
            · intro us v hR hn ho K hK
              obtain ⟨n18, -⟩ := hn
              have n18 : us 18 = _ := n18
              clear ho
              obtain ⟨F8, hp8⟩ := id hR; obtain ⟨x0, x1, x2, x3, x4, x5⟩ := hp8.six; obtain ⟨b0, b1, b2, _, _, _⟩ := three hp8.pic.box; simp only at x0 x1 x2 x3 x4 x5
              rw [if_pos (by rfl)]
              go_simp
              refine hK _ _ _ (by simp only [Act.put, List.setIfInBounds_toArray, List.set_cons_zero, List.set_cons_succ, Nat.reduceAdd, n18] <;> rfl) ?_ hR trivial
              refine only_mk (v := v) ?_
              with_reducible rfl
            · intro us v hR hn ho K hK
              obtain ⟨n19, -⟩ := hn
              have n19 : us 19 = _ := n19
              clear ho
              obtain ⟨F8, hp8⟩ := id hR; obtain ⟨x0, x1, x2, x3, x4, x5⟩ := hp8.six; obtain ⟨b0, b1, b2, _, _, _⟩ := three hp8.pic.box; simp only at x0 x1 x2 x3 x4 x5
              rw [if_pos (by simp [Region.wanted, yielded, n19])]
              go_simp
              refine hK _ _ _ (by simp only [Act.put, List.setIfInBounds_toArray, List.set_cons_zero, List.set_cons_succ, Nat.reduceAdd, n19] <;> rfl) ?_ hR trivial
              refine only_mk (v := v) ?_
              with_reducible rfl
            · intro us v hR hn ho K hK
              obtain ⟨n19, n20, -⟩ := hn
              have n19 : us 19 = _ := n19
              have n20 : us 20 = _ := n20
              clear ho
              obtain ⟨F8, hp8⟩ := id hR; obtain ⟨x0, x1, x2, x3, x4, x5⟩ := hp8.six; obtain ⟨b0, b1, b2, _, _, _⟩ := three hp8.pic.box; simp only at x0 x1 x2 x3 x4 x5
              rw [if_pos (by simp [Region.wanted, yielded, n19])]
              clear x0 x1 x2 x3 x4 x5 b0 b1 b2
              go_simp
              refine (quiet_any hp8.pic.st.net).mono ?_
              rintro e v' ⟨q2, rfl, hq2, hn9, hb9⟩
              obtain rfl : q = q2 := Bool.eq_iff_iff.2 (HQ.out.trans hq2.symm)
              dsimp only
              exact hK _ _ _ (by simp only [Act.put, List.setIfInBounds_toArray, List.set_cons_zero, List.set_cons_succ, Nat.reduceAdd, n19, n20, n19] <;> rfl) (only_mk (v := v) rfl) ⟨F8, hp8.after hb9⟩ trivial
            · intro us v hR hn ho K hK
              obtain ⟨n19, -⟩ := hn
              have n19 : us 19 = _ := n19
              clear ho
              obtain ⟨F8, hp8⟩ := id hR; obtain ⟨x0, x1, x2, x3, x4, x5⟩ := hp8.six; obtain ⟨b0, b1, b2, _, _, _⟩ := three hp8.pic.box; simp only at x0 x1 x2 x3 x4 x5
              rw [if_pos (by simp [Region.wanted, yielded, n19])]
              go_simp
              refine hK _ _ _ (by simp only [Act.put, List.setIfInBounds_toArray, List.set_cons_zero, List.set_cons_succ, Nat.reduceAdd, n19] <;> rfl) ?_ hR trivial
              refine only_mk (v := v) ?_
              with_reducible rfl
            · intro us v hR hn ho K hK
              obtain ⟨n19, n22, -⟩ := hn
              have n19 : us 19 = _ := n19
              have n22 : us 22 = _ := n22
              clear ho
              obtain ⟨F8, hp8⟩ := id hR; obtain ⟨x0, x1, x2, x3, x4, x5⟩ := hp8.six; obtain ⟨b0, b1, b2, _, _, _⟩ := three hp8.pic.box; simp only at x0 x1 x2 x3 x4 x5
              rw [if_pos (by simp [Region.wanted, yielded, n19])]
              clear x0 x1 x2 x3 x4 x5 b0 b1 b2
              go_simp
              refine (ref_quiet hp8.pic.ref (by omega)).mono ?_
              rintro e v' ⟨q2, rfl, hq2, hb9⟩
              obtain rfl : q = q2 := Bool.eq_iff_iff.2 (HQ.out.trans hq2.symm)
              dsimp only
              exact hK _ _ _ (by simp only [Act.put, List.setIfInBounds_toArray, List.set_cons_zero, List.set_cons_succ, Nat.reduceAdd, n19, n22, n19, n22] <;> rfl) (only_mk (v := v) rfl) ⟨F8, hp8.after hb9⟩ trivial
            · intro us v hR hn ho K hK
              obtain ⟨n19, n21, n23, -⟩ := hn
              have n19 : us 19 = _ := n19
              have n21 : us 21 = _ := n21
              have n23 : us 23 = _ := n23
              clear ho
              obtain ⟨F8, hp8⟩ := id hR; obtain ⟨x0, x1, x2, x3, x4, x5⟩ := hp8.six; obtain ⟨b0, b1, b2, _, _, _⟩ := three hp8.pic.box; simp only at x0 x1 x2 x3 x4 x5
              rw [if_pos (by simp [Region.wanted, yielded, n19, n21, n23])]
              go_simp
              refine hK _ _ _ (by simp only [Act.put, List.setIfInBounds_toArray, List.set_cons_zero, List.set_cons_succ, Nat.reduceAdd, n19, n21, n23] <;> rfl) ?_ hR trivial
              refine only_mk (v := v) ?_
              with_reducible rfl
            · intro us v hR hn ho K hK
              obtain ⟨n19, n24, -⟩ := hn
              have n19 : us 19 = _ := n19
              have n24 : us 24 = _ := n24
              clear ho
              obtain ⟨F8, hp8⟩ := id hR; obtain ⟨x0, x1, x2, x3, x4, x5⟩ := hp8.six; obtain ⟨b0, b1, b2, _, _, _⟩ := three hp8.pic.box; simp only at x0 x1 x2 x3 x4 x5
              rw [if_pos (by rfl)]
              go_simp
              refine hK _ _ _ (by simp only [Act.put, List.setIfInBounds_toArray, List.set_cons_zero, List.set_cons_succ, Nat.reduceAdd, n19, n24] <;> rfl) ?_ hR trivial
              refine only_mk (v := v) ?_
              with_reducible rfl
          case hla =>
            intro us v hR hl
            obtain ⟨n0, n1, n2, n3, n4, n5, n6, n7, n8, n9, n10, n11, n12, n13, n14, n15, n16, n17, n18, n19, n20, n21, n22, n23, n24, n25, -⟩ := need_last hl [0, 1, 2, 3, 4, 5, 6, 7, 8, 9, 10, 11, 12, 13, 14, 15, 16, 17, 18, 19, 20, 21, 22, 23, 24, 25] (by kernel_rfl)
            have n0 : us 0 = _ := n0
            have n1 : us 1 = _ := n1
            have n2 : us 2 = _ := n2
            have n3 : us 3 = _ := n3
            have n4 : us 4 = _ := n4
            have n5 : us 5 = _ := n5
            have n6 : us 6 = _ := n6
            have n7 : us 7 = _ := n7
            have n8 : us 8 = _ := n8
            have n9 : us 9 = _ := n9
            have n10 : us 10 = _ := n10
            have n11 : us 11 = _ := n11
            have n12 : us 12 = _ := n12
            have n13 : us 13 = _ := n13
            have n14 : us 14 = _ := n14
            have n15 : us 15 = _ := n15
            have n16 : us 16 = _ := n16
            have n17 : us 17 = _ := n17
            have n18 : us 18 = _ := n18
            have n19 : us 19 = _ := n19
            have n20 : us 20 = _ := n20
            have n21 : us 21 = _ := n21
            have n22 : us 22 = _ := n22
            have n23 : us 23 = _ := n23
            have n24 : us 24 = _ := n24
            have n25 : us 25 = _ := n25
            obtain ⟨F8, hp8⟩ := id hR; obtain ⟨x0, x1, x2, x3, x4, x5⟩ := hp8.six; obtain ⟨b0, b1, b2, _, _, _⟩ := three hp8.pic.box; simp only at x0 x1 x2 x3 x4 x5
            simp only [n0, n1, n2, n3, n4, n5, n6, n7, n8, n9, n10, n11, n12, n13, n14, n15, n16, n17, n18, n19, n20, n21, n22, n23, n24, n25]
            clear hl n0 n1 n2 n3 n4 n5 n6 n7 n8 n9 n10 n11 n12 n13 n14 n15 n16 n17 n18 n19 n20 n21 n22 n23 n24 n25
            have HRR := Lib.hid hR
            clear hR hp8 x0 x1 x2 x3 x4 x5 b0 b1 b2
            go_wp2_with fail
            obtain ⟨wo, hwo⟩ : ∃ wo : World, wo = wr := ⟨_, rfl⟩
            clear hwo
            go_loopw [16] (fun i wx => ∃ j : Int, -1 ≤ j ∧ j ≤ (len : Int) + 1 ∧ i = .int .i64 j ∧ ∃ F8, PicB w p B b ⟨K, A, B', N, X, S⟩ s' s' F8 G7 W7 c7 ws7 wx) (fun i _ => ((len : Int) + 1 - intOf i).toNat)
            case atStart => exact ⟨-1, by omega, by omega, rfl, HRR.out⟩
            case round =>
              obtain ⟨j, hj1, hj2, rfl, F9, hp9⟩ := hrel
              have HP9 := Lib.hid hp9
              clear hp9
              by_cases hjl : j ≤ (len : Int)
              · have dj : decide (j ≤ (len : Int)) = true := by simpa using hjl
                obtain ⟨x0, x1, x2, x3, x4, x5⟩ := HP9.out.six
                simp only at x0 x1 x2 x3 x4 x5
                go_wp2_with fail
                refine (look_any HP9.out.pic.st.net A B' j).mono ?_
                rintro e w9 ⟨rfl, F10, hn10, ht10⟩
                have HP10 := Lib.hid (HP9.out.turn hn10 ht10)
                clear x0 x1 x2 x3 x4 x5 hn10 ht10
                obtain ⟨x0, x1, x2, x3, x4, x5⟩ := HP10.out.six
                obtain ⟨b0, b1, b2, _, _, _⟩ := three HP10.out.pic.box
                simp only at x0 x1 x2 x3 x4 x5
                go_wp2_with fail
                refine (ref_look HP10.out.pic.ref A B' j (by omega)).mono ?_
                rintro e w11 ⟨rfl, hb11⟩
                have HP11 := Lib.hid (HP10.out.after hb11)
                generalize s'.look A B' j = tt
                generalize s'.isAt A B' j = ti
                clear x0 x1 x2 x3 x4 x5 b0 b1 b2 hb11
                go_wp2_with fail
                go_roundw
                case rel => exact ⟨j + 1, by omega, by omega, by go_num, _, HP11.out⟩
                case measure => simp [intOf]; omega
              · have dj : decide (j ≤ (len : Int)) = false := by simpa using hjl
                have hboth : Both w p B (k + 1) wr := ⟨_, _, _, _, _, _, HP9.out.pic, HSM6.out, hl7⟩
                have HBO := Lib.hid hboth
                clear hboth
                go_wp2_with fail
                go_roundw
                case rel => exact ⟨k + 1, hlt, by go_num, HBO.out⟩
                case measure => simp [intOf]; omega
      · obtain rfl : k = l.length := by omega
        go_wp2_with fail
        go_ret
        exact ⟨rfl, HP.out.st.below⟩
end Go.Proofs.Ytndiclkfincbgaa.Net
