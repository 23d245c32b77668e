/- Layer 10: the walk of PipeDoes. Conditions: the slice of acts lies in memory that came in; the table of layer 5 and the variable of package errors are laid. -/
import Derived.Test.YtihhflajkohibaaGreatDoorPipeDoe2
import Derived.BigQuiet
import Derived.Deep.CutBlock
namespace Go.Proofs.YtihhflajkohibaaGreatDoor.Pipe
set_option linter.unusedSimpArgs false
set_option linter.unusedVariables false
set_option maxRecDepth 100000
open Go.RowKit
open Go.Proofs.YtihhflajkohibaaGreatDoor
open Go.Proofs.YtihhflajkohibaaGreatDoor.Link (LE Fr zero11 ends)
open Go.Proofs.YtihhflajkohibaaGreatDoor.Net (NS NetIs)
/-- between two acts -/
def Both (w0 : World) (p b k : Nat) (w : World) : Prop := ∃ (s : PS) (M : RM) (F : List Nat), PipeIs w0.heap.size w p F s ∧ Below w0.heap.size w0 w ∧ Env w0.heap.size w ∧ RBox w b (M.rc s) ∧ RIs w M s (9 * k) ∧ b ∉ F ∧ b ∉ M.all ∧ (∀ j, j ∈ M.all → j ∉ F) ∧ w0.heap.size ≤ b ∧ Few k s
theorem Pic.both {w0 w : World} {p b c k : Nat} {a : Act10} {s : PS} {M : RM} {F : List Nat} (h : Pic w0 p b c a s s M (9 * k) F w) (hs : Few k s) : Both w0 p b k w := ⟨s, M, F, h.is, h.below, h.env, h.box, h.ref, h.bF, h.bM, h.ap, h.nb, hs⟩
/-- behind the act -/
def CutD (w0 : World) (p b c : Nat) (a : Act10) (k : Nat) (w : World) : Prop := ∃ (s : PS) (M : RM) (F : List Nat), Pic w0 p b c a s s M (9 * (k + 1)) F w ∧ Few (k + 1) s
set_option maxRecDepth 100000 in
set_option maxHeartbeats 32000000 in
theorem does_walk (epoch first window queue wait room : Int) (hu : Link.u first = first) (A : Option Addr) (c0 : Nat) (l : List Act10) (w : World) (hA : Sl w 0 w.heap.size 5 A l.length (l.flatMap Act10.cells)) (hy : l.length ≤ maxLen) (hgood : ∀ a ∈ l, a.Good) (ht : TabAt w) (hg : Frame.ErrAt w) :
    Calls Tryz.prog 3 #[.int .i64 epoch, .int .u64 first, .int .i64 window, .int .i64 queue, .int .i64 wait, .int .i64 room, .slice A l.length c0] w fun e w' => e = .returned (.bool true) ∧ Below w.heap.size w w' := by
  have hy' := hy
  unfold maxLen at hy
  have HU := Lib.hid hu
  have HGOOD := Lib.hid hgood
  have HV := Lib.hid (Env.of ht hg)
  clear hu ht hg hgood
  go_enter Tryz.func3, Tryz.ntmps3
  go_wp2_with fail
  refine (stand_new epoch first window queue wait room HU.out w _ (Below.refl _ _) HV.out).mono ?_
  rintro e w1 ⟨p, rfl, h1⟩
  have H0 := Lib.hid h1
  clear h1
  go_wp2_with fail
  refine (awake_any _ H0.out.env).mono ?_
  rintro e w2 ⟨rfl, hb⟩
  have H1 := Lib.hid (H0.out.after hb)
  clear hb
  go_wp2_with fail
  refine (few_any (hA.below H1.out.below (Nat.le_refl _)) hy').mono ?_
  rintro e w3 ⟨⟨b0, rfl, hfew⟩, rfl⟩
  have HFEW := Lib.hid hfew
  clear hfew
  cases b0
  · go_wp2_with fail
    refine (awake_any _ H1.out.env).mono ?_
    rintro e w3 ⟨rfl, hb⟩
    have H3 := Lib.hid (H1.out.after hb)
    clear hb
    go_wp2_with fail
    go_ret
    exact ⟨rfl, H3.out.below⟩
  · obtain ⟨h80, _⟩ := HFEW.out rfl
    go_wp2_with fail
    refine (ref_new epoch first window queue wait room HU.out _).mono ?_
    rintro e w4 ⟨M0, rfl, hi4, hb4, hM0⟩
    have hfew0 := new_few epoch first window queue wait room
    have h4 := H1.out.after hb4
    generalize new epoch first window queue wait room = s0 at *
    obtain ⟨R0, hR0⟩ : ∃ Q9, (M0.rc s0).all = Q9 := ⟨_, rfl⟩
    rw [hR0]
    have HS0 := Lib.hid (show R0.size = 27 from by rw [← hR0]; exact (RM.fits _ _).size)
    have HO0 := Lib.hid (show R0.all (·.oneCell') = true from by rw [← hR0]; exact (RM.fits _ _).all)
    have HR0 := Lib.hid hR0
    have HH4 := Lib.hid (And.intro h4 (And.intro hi4 (And.intro hM0 hfew0)))
    clear h4 hi4 hM0 hfew0 hb4 hR0
    go_wp2_with (refine wpList_store_all rfl 35 _ _ rfl w4.heap.size z27 R0 35 rfl rfl (heap_alloc_new w4 _) (by rw [HS0.out]; rfl) (by rw [HS0.out]; exact infoP) HO0.out ?_; intro w5 hq5 hk5; have HBOTH : Hid (Both w p w4.heap.size 0 w5) := Lib.hid (by
      obtain ⟨h4, hi4, hM0, hfew0⟩ := HH4.out
      obtain ⟨F, hF⟩ := h4.is
      have hb5 : Below w4.heap.size w4 w5 := ((Below.refl _ _).alloc (Nat.le_refl _) _).trans (hk5.below (by simp) (by simp))
      have h5 := h4.after hb5
      exact ⟨s0, M0, F, hF.after hb5, h5.below, h5.env, by unfold RBox; rw [HR0.out]; exact hq5, hi4.after hb5, fun hm => Nat.lt_irrefl _ (hF.lt hm), by rw [hM0]; simp, by rw [hM0]; simp, h4.env.le, hfew0⟩); clear hq5 hk5)
    generalize w4.heap.size = b at *
    change Code.wp _ _ _ _ _
    go_loopw [17] (fun i wr => ∃ k : Nat, k ≤ l.length ∧ i = .int .i64 (k : Int) ∧ Both w p b k wr) (fun i _ => l.length - (intOf i).toNat)
    case atStart => exact ⟨0, Nat.zero_le _, rfl, HBOTH.out⟩
    case round =>
      obtain ⟨k, hk, rfl, hr⟩ := hrel
      have HR := Lib.hid hr
      clear hr
      by_cases hlt : k < l.length
      · obtain ⟨s, M, F, q1, q2, q3, q4, q5, q6, q7, q8, q9, q10⟩ := HR.out
        have hA1 := hA.below q2 (Nat.le_refl _)
        obtain ⟨g, o, rfl, _, hgl, hat⟩ := acts_at hA1 hlt
        have i0' : (0 : Int) ≤ (k : Int) := by omega
        have i1 : (k : Int) < (l.length : Int) := by omega
        have HGA := Lib.hid (HGOOD.out l[k] (List.getElem_mem hlt))
        have HAT := Lib.hid hat
        clear hat
        generalize l[k] = a at *
        obtain ⟨K, sd, N, X, S⟩ := a
        obtain ⟨x0, x1, x2, x3, x4⟩ := HAT.out
        simp only at x0 x1 x2 x3 x4
        have hbx : Below wr.heap.size wr (wr.alloc (.cells #[.int .i64 K, .int .i64 sd, .int .i64 N, .int .i64 X, .string S] 38)) := (Below.refl _ _).alloc (Nat.le_refl _) _
        have HP := Lib.hid (show Pic w p b wr.heap.size ⟨K, sd, N, X, S⟩ s s M (9 * k) F (wr.alloc (.cells #[.int .i64 K, .int .i64 sd, .int .i64 N, .int .i64 X, .string S] 38)) from
          ⟨q1.after hbx, q2.trans (hbx.mono q3.le), q3.below (hbx.mono q3.le), (hbx.block b (lt_of_block q4)).trans q4, q5.after hbx, q6, q7, q8, q9, heap_alloc_new wr _, fun h => Nat.lt_irrefl _ (q1.lt h), fun h => by have := lt_of_block q4; omega, q3.le⟩)
        have HFW := Lib.hid q10
        clear q1 q2 q3 q4 q5 q6 q7 q8 q9 q10 hbx hA1 HR
        have hk800 : 9 * k ≤ 800 := by omega
        go_upto_block 2 with fail
        clear x0 x1 x2 x3 x4
        generalize wr.heap.size = c at *
        obtain ⟨wo, hwo⟩ : ∃ wo, wr.alloc (.cells #[.int .i64 K, .int .i64 sd, .int .i64 N, .int .i64 X, .string S] 38) = wo := ⟨_, rfl⟩
        rw [hwo] at HP ⊢
        clear hwo
        go_cut [19, 20] (fun s19 s20 wx => ∃ x : Bool, s19 = .bool x ∧ s20 = .bool x ∧ CutD w p b c ⟨K, sd, N, X, S⟩ k wx)
        case first =>
          obtain ⟨x0, x1, x2, x3, x4⟩ := HP.out.five
          simp only at x0 x1 x2 x3 x4
          by_cases h0 : K = 0
          · subst h0
            as_aux_lemma =>
              obtain ⟨s', hs'⟩ : ∃ s', onSide sd (fun me => s.send me S) s = s' := ⟨_, rfl⟩
              have HFW' := Lib.hid (show Few (k + 1) s' from by rw [← hs']; exact onSide_all (fun me => HFW.out.send me S) HFW.out.more)
              have hpd := send_does HP.out sd S
              obtain ⟨E, hE⟩ : ∃ z, onSide sd (fun me => (s.e me).sendE S) 100 = z := ⟨_, rfl⟩
              simp only [hs', hE] at hpd
              have HPD := Lib.hid hpd
              have HSS := Lib.hid hs'
              have HHE := Lib.hid hE
              clear hpd hs' hE
              go_wp2_with fail
              refine (HPD.out).mono ?_
              rintro e w7 ⟨rfl, F7, hp7⟩
              obtain ⟨R7, hR7⟩ : ∃ Q9, (M.rc s).all = Q9 := ⟨_, rfl⟩
              have HS7 := Lib.hid (show R7.size = 27 from by rw [← hR7]; exact (RM.fits _ _).size)
              have HBX7 := Lib.hid (show w7.heap[b]? = some (.cells R7 35 (0, 0)) from by rw [← hR7]; exact hp7.box)
              have hcl := rsend_does hp7.ref hk800 HFW.out sd S
              simp only [hR7, HSS.out, HHE.out] at hcl
              have HCL := Lib.hid hcl
              have HP7 := Lib.hid hp7
              clear x0 x1 x2 x3 x4 hcl hR7
              obtain ⟨x0, x1, x2, x3, x4⟩ := hp7.five
              simp only at x0 x1 x2 x3 x4
              clear hp7
              go_wp2_with (refine wpList_load_row rfl 35 _ rfl b rfl 35 R7 (0, 0) _ HBX7.out Tryz.underlying35 rfl (by rw [HS7.out]; exact infoP) ?_)
              refine (HCL.out).mono ?_
              rintro e w8 ⟨M8, rfl, hi8, hb8, hm8⟩
              obtain ⟨R8, hR8⟩ : ∃ Q9, (M8.rc s').all = Q9 := ⟨_, rfl⟩
              rw [hR8]
              have HS8 := Lib.hid (show R8.size = 27 from by rw [← hR8]; exact (RM.fits _ _).size)
              have HO8 := Lib.hid (show R8.all (·.oneCell') = true from by rw [← hR8]; exact (RM.fits _ _).all)
              have HR8 := Lib.hid hR8
              have HI8 := Lib.hid (And.intro hi8 (And.intro hb8 hm8))
              have HBX8 := Lib.hid ((hb8.block b (lt_of_block HBX7.out)).trans HBX7.out)
              clear hi8 hb8 hm8 hR8 x0 x1 x2 x3 x4
              go_wp2_with (first | (refine wpList_store_all rfl 35 _ _ rfl w8.heap.size z27 R8 35 rfl rfl (heap_alloc_new w8 _) (by rw [HS8.out]; rfl) (by rw [HS8.out]; exact infoP) HO8.out ?_; intro w9 hq9 hk9; have hb9 : Below w8.heap.size w8 w9 := ((Below.refl _ _).alloc (Nat.le_refl _) _).trans (hk9.below (by simp) (by simp)); have HB9 := Lib.hid hb9; have HQ9 := Lib.hid hq9; have HBX9 := Lib.hid ((hb9.block b (lt_of_block HBX8.out)).trans HBX8.out); clear hq9 hk9 hb9) | (refine wpList_load_row rfl 35 _ rfl w8.heap.size rfl 35 R8 (0, 0) _ HQ9.out Tryz.underlying35 rfl (by rw [HS8.out]; exact infoP) ?_) | (refine wpList_store_all rfl 35 _ _ rfl b R7 R8 35 rfl rfl HBX9.out (by rw [HS7.out, HS8.out]) (by rw [HS8.out]; exact infoP) HO8.out ?_; intro w10 hq10 hk10; have hb9 := HB9.out; have HCUT : Hid (CutD w p b c ⟨0, sd, N, X, S⟩ k w10) := Lib.hid ⟨s', M8, F7, (HP7.out.put ((HI8.out.2.1.trans (hb9.mono HI8.out.2.1.size))) (J := 9 * (k + 1)) ((HI8.out.1.more (by omega)).after hb9) HI8.out.2.2 (by unfold RBox; rw [HR8.out]; exact hq10) hk10), HFW'.out⟩; clear hq10 hk10 hb9))
              go_meet
              exact ⟨_, rfl, rfl, HCUT.out⟩
          · have q0 : (K == 0) = false := beq_eq_false_iff_ne.2 h0
            by_cases h1 : K = 1
            · subst h1
              as_aux_lemma =>
                obtain ⟨s', hs'⟩ : ∃ s', onSide sd (fun me => s.go me) s = s' := ⟨_, rfl⟩
                have HFW' := Lib.hid (show Few (k + 1) s' from by rw [← hs']; exact onSide_all (fun me => HFW.out.go me) HFW.out.more)
                have hpd := go_does HP.out sd
                obtain ⟨E, hE⟩ : ∃ z, onSide sd (fun me => ((s.gone me).2 : Int)) 0 = z := ⟨_, rfl⟩
                simp only [hs', hE] at hpd
                have HPD := Lib.hid hpd
                have HSS := Lib.hid hs'
                have HHE := Lib.hid hE
                clear hpd hs' hE
                go_wp2_with fail
                refine (HPD.out).mono ?_
                rintro e w7 ⟨rfl, F7, hp7⟩
                obtain ⟨R7, hR7⟩ : ∃ Q9, (M.rc s).all = Q9 := ⟨_, rfl⟩
                have HS7 := Lib.hid (show R7.size = 27 from by rw [← hR7]; exact (RM.fits _ _).size)
                have HBX7 := Lib.hid (show w7.heap[b]? = some (.cells R7 35 (0, 0)) from by rw [← hR7]; exact hp7.box)
                have hcl := rgo_does hp7.ref hk800 HFW.out sd
                simp only [hR7, HSS.out, HHE.out] at hcl
                have HCL := Lib.hid hcl
                have HP7 := Lib.hid hp7
                clear x0 x1 x2 x3 x4 hcl hR7
                obtain ⟨x0, x1, x2, x3, x4⟩ := hp7.five
                simp only at x0 x1 x2 x3 x4
                clear hp7
                go_wp2_with (refine wpList_load_row rfl 35 _ rfl b rfl 35 R7 (0, 0) _ HBX7.out Tryz.underlying35 rfl (by rw [HS7.out]; exact infoP) ?_)
                refine (HCL.out).mono ?_
                rintro e w8 ⟨M8, rfl, hi8, hb8, hm8⟩
                obtain ⟨R8, hR8⟩ : ∃ Q9, (M8.rc s').all = Q9 := ⟨_, rfl⟩
                rw [hR8]
                have HS8 := Lib.hid (show R8.size = 27 from by rw [← hR8]; exact (RM.fits _ _).size)
                have HO8 := Lib.hid (show R8.all (·.oneCell') = true from by rw [← hR8]; exact (RM.fits _ _).all)
                have HR8 := Lib.hid hR8
                have HI8 := Lib.hid (And.intro hi8 (And.intro hb8 hm8))
                have HBX8 := Lib.hid ((hb8.block b (lt_of_block HBX7.out)).trans HBX7.out)
                clear hi8 hb8 hm8 hR8 x0 x1 x2 x3 x4
                go_wp2_with (first | (refine wpList_store_all rfl 35 _ _ rfl w8.heap.size z27 R8 35 rfl rfl (heap_alloc_new w8 _) (by rw [HS8.out]; rfl) (by rw [HS8.out]; exact infoP) HO8.out ?_; intro w9 hq9 hk9; have hb9 : Below w8.heap.size w8 w9 := ((Below.refl _ _).alloc (Nat.le_refl _) _).trans (hk9.below (by simp) (by simp)); have HB9 := Lib.hid hb9; have HQ9 := Lib.hid hq9; have HBX9 := Lib.hid ((hb9.block b (lt_of_block HBX8.out)).trans HBX8.out); clear hq9 hk9 hb9) | (refine wpList_load_row rfl 35 _ rfl w8.heap.size rfl 35 R8 (0, 0) _ HQ9.out Tryz.underlying35 rfl (by rw [HS8.out]; exact infoP) ?_) | (refine wpList_store_all rfl 35 _ _ rfl b R7 R8 35 rfl rfl HBX9.out (by rw [HS7.out, HS8.out]) (by rw [HS8.out]; exact infoP) HO8.out ?_; intro w10 hq10 hk10; have hb9 := HB9.out; have HCUT : Hid (CutD w p b c ⟨1, sd, N, X, S⟩ k w10) := Lib.hid ⟨s', M8, F7, (HP7.out.put ((HI8.out.2.1.trans (hb9.mono HI8.out.2.1.size))) (J := 9 * (k + 1)) ((HI8.out.1.more (by omega)).after hb9) HI8.out.2.2 (by unfold RBox; rw [HR8.out]; exact hq10) hk10), HFW'.out⟩; clear hq10 hk10 hb9))
                go_meet
                exact ⟨_, rfl, rfl, HCUT.out⟩
            · have q1 : (K == 1) = false := beq_eq_false_iff_ne.2 h1
              by_cases h2 : K = 2
              · subst h2
                as_aux_lemma =>
                  obtain ⟨s', hs'⟩ : ∃ s', onSide sd (fun me => s.tick me) s = s' := ⟨_, rfl⟩
                  have HFW' := Lib.hid (show Few (k + 1) s' from by rw [← hs']; exact onSide_all (fun me => HFW.out.tick me) HFW.out.more)
                  have hpd := tick_does HP.out sd
                  simp only [hs'] at hpd
                  have HPD := Lib.hid hpd
                  have HSS := Lib.hid hs'
                  clear hpd hs'
                  go_wp2_with fail
                  refine (HPD.out).mono ?_
                  rintro e w7 ⟨rfl, F7, hp7⟩
                  obtain ⟨R7, hR7⟩ : ∃ Q9, (M.rc s).all = Q9 := ⟨_, rfl⟩
                  have HS7 := Lib.hid (show R7.size = 27 from by rw [← hR7]; exact (RM.fits _ _).size)
                  have HBX7 := Lib.hid (show w7.heap[b]? = some (.cells R7 35 (0, 0)) from by rw [← hR7]; exact hp7.box)
                  have hcl := rtick_does hp7.ref hk800 HFW.out sd
                  simp only [hR7, HSS.out] at hcl
                  have HCL := Lib.hid hcl
                  have HP7 := Lib.hid hp7
                  clear x0 x1 x2 x3 x4 hcl hR7
                  obtain ⟨x0, x1, x2, x3, x4⟩ := hp7.five
                  simp only at x0 x1 x2 x3 x4
                  clear hp7
                  go_wp2_with (refine wpList_load_row rfl 35 _ rfl b rfl 35 R7 (0, 0) _ HBX7.out Tryz.underlying35 rfl (by rw [HS7.out]; exact infoP) ?_)
                  refine (HCL.out).mono ?_
                  rintro e w8 ⟨M8, rfl, hi8, hb8, hm8⟩
                  obtain ⟨R8, hR8⟩ : ∃ Q9, (M8.rc s').all = Q9 := ⟨_, rfl⟩
                  rw [hR8]
                  have HS8 := Lib.hid (show R8.size = 27 from by rw [← hR8]; exact (RM.fits _ _).size)
                  have HO8 := Lib.hid (show R8.all (·.oneCell') = true from by rw [← hR8]; exact (RM.fits _ _).all)
                  have HR8 := Lib.hid hR8
                  have HI8 := Lib.hid (And.intro hi8 (And.intro hb8 hm8))
                  have HBX8 := Lib.hid ((hb8.block b (lt_of_block HBX7.out)).trans HBX7.out)
                  clear hi8 hb8 hm8 hR8 x0 x1 x2 x3 x4
                  go_wp2_with (refine wpList_store_all rfl 35 _ _ rfl b R7 R8 35 rfl rfl HBX8.out (by rw [HS7.out, HS8.out]) (by rw [HS8.out]; exact infoP) HO8.out ?_; intro w10 hq10 hk10; have HCUT : Hid (CutD w p b c ⟨2, sd, N, X, S⟩ k w10) := Lib.hid ⟨s', M8, F7, (HP7.out.put ((HI8.out.2.1)) (J := 9 * (k + 1)) ((HI8.out.1.more (by omega))) HI8.out.2.2 (by unfold RBox; rw [HR8.out]; exact hq10) hk10), HFW'.out⟩; clear hq10 hk10)
                  go_meet
                  exact ⟨_, rfl, rfl, HCUT.out⟩
              · have q2 : (K == 2) = false := beq_eq_false_iff_ne.2 h2
                by_cases h3 : K = 3
                · subst h3
                  as_aux_lemma =>
                    obtain ⟨s', hs'⟩ : ∃ s', onSide sd (fun me => s.come me N) s = s' := ⟨_, rfl⟩
                    have HFW' := Lib.hid (show Few (k + 1) s' from by rw [← hs']; exact onSide_all (fun me => HFW.out.come me N) HFW.out.more)
                    have hpd := come_does HP.out HFW.out (by omega) sd N
                    obtain ⟨T, hT⟩ : ∃ z, onSide sd (fun me => s.comeS me N) ⟨#[]⟩ = z := ⟨_, rfl⟩
                    obtain ⟨E, hE⟩ : ∃ z, onSide sd (fun me => s.comeB me N) false = z := ⟨_, rfl⟩
                    simp only [hs', hT, hE] at hpd
                    have HPD := Lib.hid hpd
                    have HSS := Lib.hid hs'
                    have HHT := Lib.hid hT
                    have HHE := Lib.hid hE
                    clear hpd hs' hT hE
                    go_wp2_with fail
                    refine (HPD.out).mono ?_
                    rintro e w7 ⟨rfl, F7, hp7⟩
                    obtain ⟨R7, hR7⟩ : ∃ Q9, (M.rc s).all = Q9 := ⟨_, rfl⟩
                    have HS7 := Lib.hid (show R7.size = 27 from by rw [← hR7]; exact (RM.fits _ _).size)
                    have HBX7 := Lib.hid (show w7.heap[b]? = some (.cells R7 35 (0, 0)) from by rw [← hR7]; exact hp7.box)
                    have hcl := rcome_does hp7.ref hk800 HFW.out (by omega) sd N
                    simp only [hR7, HSS.out, HHT.out, HHE.out] at hcl
                    have HCL := Lib.hid hcl
                    have HP7 := Lib.hid hp7
                    clear x0 x1 x2 x3 x4 hcl hR7
                    obtain ⟨x0, x1, x2, x3, x4⟩ := hp7.five
                    simp only at x0 x1 x2 x3 x4
                    clear hp7
                    go_wp2_with (refine wpList_load_row rfl 35 _ rfl b rfl 35 R7 (0, 0) _ HBX7.out Tryz.underlying35 rfl (by rw [HS7.out]; exact infoP) ?_)
                    refine (HCL.out).mono ?_
                    rintro e w8 ⟨M8, rfl, hi8, hb8, hm8⟩
                    obtain ⟨R8, hR8⟩ : ∃ Q9, (M8.rc s').all = Q9 := ⟨_, rfl⟩
                    rw [hR8]
                    have HS8 := Lib.hid (show R8.size = 27 from by rw [← hR8]; exact (RM.fits _ _).size)
                    have HO8 := Lib.hid (show R8.all (·.oneCell') = true from by rw [← hR8]; exact (RM.fits _ _).all)
                    have HR8 := Lib.hid hR8
                    have HI8 := Lib.hid (And.intro hi8 (And.intro hb8 hm8))
                    have HBX8 := Lib.hid ((hb8.block b (lt_of_block HBX7.out)).trans HBX7.out)
                    clear hi8 hb8 hm8 hR8 x0 x1 x2 x3 x4
                    go_wp2_with (first | (refine wpList_store_all rfl 35 _ _ rfl w8.heap.size z27 R8 35 rfl rfl (heap_alloc_new w8 _) (by rw [HS8.out]; rfl) (by rw [HS8.out]; exact infoP) HO8.out ?_; intro w9 hq9 hk9; have hb9 : Below w8.heap.size w8 w9 := ((Below.refl _ _).alloc (Nat.le_refl _) _).trans (hk9.below (by simp) (by simp)); have HB9 := Lib.hid hb9; have HQ9 := Lib.hid hq9; have HBX9 := Lib.hid ((hb9.block b (lt_of_block HBX8.out)).trans HBX8.out); clear hq9 hk9 hb9) | (refine wpList_load_row rfl 35 _ rfl w8.heap.size rfl 35 R8 (0, 0) _ HQ9.out Tryz.underlying35 rfl (by rw [HS8.out]; exact infoP) ?_) | (refine wpList_store_all rfl 35 _ _ rfl b R7 R8 35 rfl rfl HBX9.out (by rw [HS7.out, HS8.out]) (by rw [HS8.out]; exact infoP) HO8.out ?_; intro w10 hq10 hk10; have hb9 := HB9.out; have HCUT : Hid (CutD w p b c ⟨3, sd, N, X, S⟩ k w10) := Lib.hid ⟨s', M8, F7, (HP7.out.put ((HI8.out.2.1.trans (hb9.mono HI8.out.2.1.size))) (J := 9 * (k + 1)) ((HI8.out.1.more (by omega)).after hb9) HI8.out.2.2 (by unfold RBox; rw [HR8.out]; exact hq10) hk10), HFW'.out⟩; clear hq10 hk10 hb9))
                    go_meet
                    exact ⟨_, rfl, rfl, HCUT.out⟩
                · have q3 : (K == 3) = false := beq_eq_false_iff_ne.2 h3
                  by_cases h4 : K = 4
                  · subst h4
                    as_aux_lemma =>
                      obtain ⟨s', hs'⟩ : ∃ s', onSide sd (fun me => s.lose me N) s = s' := ⟨_, rfl⟩
                      have HFW' := Lib.hid (show Few (k + 1) s' from by rw [← hs']; exact onSide_all (fun me => HFW.out.lose me N) HFW.out.more)
                      have hpd := lose_does HP.out sd N
                      obtain ⟨E, hE⟩ : ∃ z, onSide sd (fun me => s.has me N) false = z := ⟨_, rfl⟩
                      simp only [hs', hE] at hpd
                      have HPD := Lib.hid hpd
                      have HSS := Lib.hid hs'
                      have HHE := Lib.hid hE
                      clear hpd hs' hE
                      go_wp2_with fail
                      refine (HPD.out).mono ?_
                      rintro e w7 ⟨rfl, F7, hp7⟩
                      obtain ⟨R7, hR7⟩ : ∃ Q9, (M.rc s).all = Q9 := ⟨_, rfl⟩
                      have HS7 := Lib.hid (show R7.size = 27 from by rw [← hR7]; exact (RM.fits _ _).size)
                      have HBX7 := Lib.hid (show w7.heap[b]? = some (.cells R7 35 (0, 0)) from by rw [← hR7]; exact hp7.box)
                      have hcl := rlose_does hp7.ref hk800 HFW.out sd N
                      simp only [hR7, HSS.out, HHE.out] at hcl
                      have HCL := Lib.hid hcl
                      have HP7 := Lib.hid hp7
                      clear x0 x1 x2 x3 x4 hcl hR7
                      obtain ⟨x0, x1, x2, x3, x4⟩ := hp7.five
                      simp only at x0 x1 x2 x3 x4
                      clear hp7
                      go_wp2_with (refine wpList_load_row rfl 35 _ rfl b rfl 35 R7 (0, 0) _ HBX7.out Tryz.underlying35 rfl (by rw [HS7.out]; exact infoP) ?_)
                      refine (HCL.out).mono ?_
                      rintro e w8 ⟨M8, rfl, hi8, hb8, hm8⟩
                      obtain ⟨R8, hR8⟩ : ∃ Q9, (M8.rc s').all = Q9 := ⟨_, rfl⟩
                      rw [hR8]
                      have HS8 := Lib.hid (show R8.size = 27 from by rw [← hR8]; exact (RM.fits _ _).size)
                      have HO8 := Lib.hid (show R8.all (·.oneCell') = true from by rw [← hR8]; exact (RM.fits _ _).all)
                      have HR8 := Lib.hid hR8
                      have HI8 := Lib.hid (And.intro hi8 (And.intro hb8 hm8))
                      have HBX8 := Lib.hid ((hb8.block b (lt_of_block HBX7.out)).trans HBX7.out)
                      clear hi8 hb8 hm8 hR8 x0 x1 x2 x3 x4
                      go_wp2_with (refine wpList_store_all rfl 35 _ _ rfl b R7 R8 35 rfl rfl HBX8.out (by rw [HS7.out, HS8.out]) (by rw [HS8.out]; exact infoP) HO8.out ?_; intro w10 hq10 hk10; have HCUT : Hid (CutD w p b c ⟨4, sd, N, X, S⟩ k w10) := Lib.hid ⟨s', M8, F7, (HP7.out.put ((HI8.out.2.1)) (J := 9 * (k + 1)) ((HI8.out.1.more (by omega))) HI8.out.2.2 (by unfold RBox; rw [HR8.out]; exact hq10) hk10), HFW'.out⟩; clear hq10 hk10)
                      go_meet
                      exact ⟨_, rfl, rfl, HCUT.out⟩
                  · have q4 : (K == 4) = false := beq_eq_false_iff_ne.2 h4
                    by_cases h5 : K = 5
                    · subst h5
                      as_aux_lemma =>
                        obtain ⟨s', hs'⟩ : ∃ s', onSide sd (fun me => s.double me N) s = s' := ⟨_, rfl⟩
                        have HFW' := Lib.hid (show Few (k + 1) s' from by rw [← hs']; exact onSide_all (fun me => HFW.out.double me N) HFW.out.more)
                        have hpd := double_does HP.out sd N
                        obtain ⟨E, hE⟩ : ∃ z, onSide sd (fun me => s.doubleOk me N) false = z := ⟨_, rfl⟩
                        simp only [hs', hE] at hpd
                        have HPD := Lib.hid hpd
                        have HSS := Lib.hid hs'
                        have HHE := Lib.hid hE
                        clear hpd hs' hE
                        go_wp2_with fail
                        refine (HPD.out).mono ?_
                        rintro e w7 ⟨rfl, F7, hp7⟩
                        obtain ⟨R7, hR7⟩ : ∃ Q9, (M.rc s).all = Q9 := ⟨_, rfl⟩
                        have HS7 := Lib.hid (show R7.size = 27 from by rw [← hR7]; exact (RM.fits _ _).size)
                        have HBX7 := Lib.hid (show w7.heap[b]? = some (.cells R7 35 (0, 0)) from by rw [← hR7]; exact hp7.box)
                        have hcl := rdouble_does hp7.ref hk800 HFW.out sd N
                        simp only [hR7, HSS.out, HHE.out] at hcl
                        have HCL := Lib.hid hcl
                        have HP7 := Lib.hid hp7
                        clear x0 x1 x2 x3 x4 hcl hR7
                        obtain ⟨x0, x1, x2, x3, x4⟩ := hp7.five
                        simp only at x0 x1 x2 x3 x4
                        clear hp7
                        go_wp2_with (refine wpList_load_row rfl 35 _ rfl b rfl 35 R7 (0, 0) _ HBX7.out Tryz.underlying35 rfl (by rw [HS7.out]; exact infoP) ?_)
                        refine (HCL.out).mono ?_
                        rintro e w8 ⟨M8, rfl, hi8, hb8, hm8⟩
                        obtain ⟨R8, hR8⟩ : ∃ Q9, (M8.rc s').all = Q9 := ⟨_, rfl⟩
                        rw [hR8]
                        have HS8 := Lib.hid (show R8.size = 27 from by rw [← hR8]; exact (RM.fits _ _).size)
                        have HO8 := Lib.hid (show R8.all (·.oneCell') = true from by rw [← hR8]; exact (RM.fits _ _).all)
                        have HR8 := Lib.hid hR8
                        have HI8 := Lib.hid (And.intro hi8 (And.intro hb8 hm8))
                        have HBX8 := Lib.hid ((hb8.block b (lt_of_block HBX7.out)).trans HBX7.out)
                        clear hi8 hb8 hm8 hR8 x0 x1 x2 x3 x4
                        go_wp2_with (refine wpList_store_all rfl 35 _ _ rfl b R7 R8 35 rfl rfl HBX8.out (by rw [HS7.out, HS8.out]) (by rw [HS8.out]; exact infoP) HO8.out ?_; intro w10 hq10 hk10; have HCUT : Hid (CutD w p b c ⟨5, sd, N, X, S⟩ k w10) := Lib.hid ⟨s', M8, F7, (HP7.out.put ((HI8.out.2.1)) (J := 9 * (k + 1)) ((HI8.out.1.more (by omega))) HI8.out.2.2 (by unfold RBox; rw [HR8.out]; exact hq10) hk10), HFW'.out⟩; clear hq10 hk10)
                        go_meet
                        exact ⟨_, rfl, rfl, HCUT.out⟩
                    · have q5 : (K == 5) = false := beq_eq_false_iff_ne.2 h5
                      as_aux_lemma =>
                        obtain ⟨s', hs'⟩ : ∃ s', onSide sd (fun me => s.flip me N X) s = s' := ⟨_, rfl⟩
                        have HFW' := Lib.hid (show Few (k + 1) s' from by rw [← hs']; exact onSide_all (fun me => HFW.out.flip me N X) HFW.out.more)
                        have hpd := flip_does HP.out HFW.out sd N X
                        obtain ⟨E, hE⟩ : ∃ z, onSide sd (fun me => s.flipOk me N) false = z := ⟨_, rfl⟩
                        simp only [hs', hE] at hpd
                        have HPD := Lib.hid hpd
                        have HSS := Lib.hid hs'
                        have HHE := Lib.hid hE
                        clear hpd hs' hE
                        go_wp2_with fail
                        refine (HPD.out).mono ?_
                        rintro e w7 ⟨rfl, F7, hp7⟩
                        obtain ⟨R7, hR7⟩ : ∃ Q9, (M.rc s).all = Q9 := ⟨_, rfl⟩
                        have HS7 := Lib.hid (show R7.size = 27 from by rw [← hR7]; exact (RM.fits _ _).size)
                        have HBX7 := Lib.hid (show w7.heap[b]? = some (.cells R7 35 (0, 0)) from by rw [← hR7]; exact hp7.box)
                        have hcl := rflip_does hp7.ref hk800 HFW.out sd N X HGA.out.2.2.2.1 HGA.out.2.2.2.2
                        simp only [hR7, HSS.out, HHE.out] at hcl
                        have HCL := Lib.hid hcl
                        have HP7 := Lib.hid hp7
                        clear x0 x1 x2 x3 x4 hcl hR7
                        obtain ⟨x0, x1, x2, x3, x4⟩ := hp7.five
                        simp only at x0 x1 x2 x3 x4
                        clear hp7
                        go_wp2_with (refine wpList_load_row rfl 35 _ rfl b rfl 35 R7 (0, 0) _ HBX7.out Tryz.underlying35 rfl (by rw [HS7.out]; exact infoP) ?_)
                        refine (HCL.out).mono ?_
                        rintro e w8 ⟨M8, rfl, hi8, hb8, hm8⟩
                        obtain ⟨R8, hR8⟩ : ∃ Q9, (M8.rc s').all = Q9 := ⟨_, rfl⟩
                        rw [hR8]
                        have HS8 := Lib.hid (show R8.size = 27 from by rw [← hR8]; exact (RM.fits _ _).size)
                        have HO8 := Lib.hid (show R8.all (·.oneCell') = true from by rw [← hR8]; exact (RM.fits _ _).all)
                        have HR8 := Lib.hid hR8
                        have HI8 := Lib.hid (And.intro hi8 (And.intro hb8 hm8))
                        have HBX8 := Lib.hid ((hb8.block b (lt_of_block HBX7.out)).trans HBX7.out)
                        clear hi8 hb8 hm8 hR8 x0 x1 x2 x3 x4
                        go_wp2_with (refine wpList_store_all rfl 35 _ _ rfl b R7 R8 35 rfl rfl HBX8.out (by rw [HS7.out, HS8.out]) (by rw [HS8.out]; exact infoP) HO8.out ?_; intro w10 hq10 hk10; have HCUT : Hid (CutD w p b c ⟨K, sd, N, X, S⟩ k w10) := Lib.hid ⟨s', M8, F7, (HP7.out.put ((HI8.out.2.1)) (J := 9 * (k + 1)) ((HI8.out.1.more (by omega))) HI8.out.2.2 (by unfold RBox; rw [HR8.out]; exact hq10) hk10), HFW'.out⟩; clear hq10 hk10)
                        go_meet
                        exact ⟨_, rfl, rfl, HCUT.out⟩
        case rest =>
          as_aux_lemma =>
            obtain ⟨x, rfl, rfl, s', M', F', hp', hf'⟩ := hcut
            have HP' := Lib.hid hp'
            have HF' := Lib.hid hf'
            clear hp' hf' HP
            go_wp2_with fail
            change Code.wp _ _ _ _ _
            go_loopw [32] (fun z wx => ∃ m : Nat, m ≤ 2 ∧ z = .int .i64 (m : Int) ∧ ∃ F8, Pic w p b c ⟨K, sd, N, X, S⟩ s' s' M' (9 * (k + 1)) F8 wx) (fun z _ => 2 - (intOf z).toNat)
            case atStart => exact ⟨0, by omega, rfl, _, HP'.out⟩
            case round =>
              obtain ⟨m, hm, rfl, F8, hp8⟩ := hrel
              have HP8 := Lib.hid hp8
              clear hp8
              by_cases hm2 : m < 2
              · have dm : decide ((m : Int) < 2) = true := by simp; omega
                obtain ⟨me, hme⟩ : ∃ me : Bool, me.toNat = m := ⟨decide (m = 1), by
                  have : m = 0 ∨ m = 1 := by omega
                  rcases this with rfl | rfl <;> rfl⟩
                obtain ⟨m', r, e1, e2, e3, e4, _, hr2, hmr⟩ := no_nat me
                obtain rfl : m' = m := e1.symm.trans hme
                have hw1 : IntKind.i64.wrap (1 - (m' : Int)) = (r : Int) := by rw [hmr]; exact IntWalk.i64_in _ (by omega)
                have hz0 : (if (m' : Int) = 0 then (M'.rc s').ga else (M'.rc s').gb) = sl (M'.g me) (s'.g me).length := by
                  have : m' = 0 ∨ m' = 1 := by omega
                  rcases this with rfl | rfl <;> (cases me <;> first | rfl | (exfalso; revert e1; decide))
                have hy0 : (if (m' : Int) = 0 then (M'.rc s').a else (M'.rc s').b).toArray = ends (s'.e me) (M'.A me) (M'.c me) := by
                  have : m' = 0 ∨ m' = 1 := by omega
                  rcases this with rfl | rfl <;> (cases me <;> first | rfl | (exfalso; revert e1; decide))
                obtain ⟨a0, a1, a2, a3, a5, a6, a7, a8, a9, a10, hen⟩ : ∃ a0 a1 a2 a3 a5 a6 a7 a8 a9 a10, ends (s'.e me) (M'.A me) (M'.c me) = #[a0, a1, a2, a3, .slice (M'.A me) (s'.e me).bodies.length (M'.c me), a5, a6, a7, a8, a9, a10] := ⟨_, _, _, _, _, _, _, _, _, _, rfl⟩
                obtain ⟨R', hR'⟩ : ∃ Q9, (M'.rc s').all = Q9 := ⟨_, rfl⟩
                have HS' := Lib.hid (show R'.size = 27 from by rw [← hR']; exact (RM.fits _ _).size)
                have HR' := Lib.hid hR'
                obtain ⟨nb, hnb⟩ : ∃ nb, (s'.e me).bodies.length = nb := ⟨_, rfl⟩
                obtain ⟨xs, hxs⟩ : ∃ xs, s'.g me = xs := ⟨_, rfl⟩
                have hxl : xs.length ≤ 1000 := by rw [← hxs]; exact Nat.le_trans (HF'.out.g me) (by omega)
                have HGOT := Lib.hid (show ∀ v F9, Pic w p b c ⟨K, sd, N, X, S⟩ s' s' M' (9 * (k + 1)) F9 v → Calls Tryz.prog 23 #[.pointer (some ⟨p, 0, none⟩), .int .i64 (m' : Int)] v fun e v' => ∃ A' c' G', e = .returned (.slice A' xs.length c') ∧ Vec v' G' 1 A' xs.length c' (xs.map .string) ∧ Below v.heap.size v v' from fun v F9 h => by
                  have := got_yes h.is me (by rw [hxs]; omega)
                  rw [hxs, e3] at this
                  exact this.mono fun e v' q => by obtain ⟨A', c', G', z1, z2, _, z4⟩ := q; exact ⟨A', c', G', z1, z2, z4⟩)
                have HRGOT := Lib.hid (show ∀ v, Calls Tryz.prog 24 #[.agg R', .int .i64 (m' : Int)] v fun e v' => e = .returned (.slice (M'.g me).A xs.length (M'.g me).c) ∧ Below v.heap.size v v' from fun v => by
                  have := ref_got (M'.rc s') (RM.fits _ _) (m' : Int) v
                  rw [hz0, hR', hxs] at this
                  exact this)
                have HRV := Lib.hid (show ∀ v F9, Pic w p b c ⟨K, sd, N, X, S⟩ s' s' M' (9 * (k + 1)) F9 v → Vec v (M'.g me).F 1 (M'.g me).A xs.length (M'.g me).c (xs.map .string) from fun v F9 h => by
                  have := h.ref.got me
                  rwa [hxs] at this)
                have HWAIT := Lib.hid (show ∀ v F9, Pic w p b c ⟨K, sd, N, X, S⟩ s' s' M' (9 * (k + 1)) F9 v → Calls Tryz.prog 25 #[.pointer (some ⟨p, 0, none⟩), .int .i64 (m' : Int)] v fun e v' => e = .returned (.int .i64 (nb : Int)) ∧ v = v' from fun v F9 h => by
                  have := waiting_yes h.is me
                  rwa [hnb, e3] at this)
                have HEND := Lib.hid (show ∀ v, Calls Tryz.prog 26 #[.agg R', .int .i64 (m' : Int)] v fun e v' => e = .returned (.agg #[a0, a1, a2, a3, .slice (M'.A me) nb (M'.c me), a5, a6, a7, a8, a9, a10]) ∧ Below v.heap.size v v' from fun v => by
                  have := ref_end (M'.rc s') (RM.fits _ _) (m' : Int) _ (hy0.trans hen).symm v
                  rwa [hR', hnb] at this)
                have HLOOK := Lib.hid (show ∀ v F9 j, Pic w p b c ⟨K, sd, N, X, S⟩ s' s' M' (9 * (k + 1)) F9 v → Calls Tryz.prog 28 #[.pointer (some ⟨p, 0, none⟩), .int .i64 (m' : Int), .int .i64 j] v fun e v' => e = .returned (.tuple #[.string (s'.n.look (r : Int) (m' : Int) j), .bool (s'.n.isAt (r : Int) (m' : Int) j)]) ∧ ∃ F', Pic w p b c ⟨K, sd, N, X, S⟩ s' s' M' (9 * (k + 1)) F' v' from fun v F9 j h => by
                  have := h.does (look_yes h.is h.env.le me j)
                  rw [show s'.look me j = s'.n.look (r : Int) (m' : Int) j from by rw [← e3, ← e4]; rfl, show s'.has me j = s'.n.isAt (r : Int) (m' : Int) j from by rw [← e3, ← e4]; rfl, e3] at this
                  exact this)
                obtain ⟨len, hlen⟩ : ∃ len, (s'.n.f (r : Int) (m' : Int)).length = len := ⟨_, rfl⟩
                have hl1000 : len ≤ 1000 := by rw [← hlen]; exact HF'.out.len _ _
                obtain ⟨N', hN'⟩ : ∃ N', (M'.net s'.n).toArray = N' := ⟨_, rfl⟩
                have HN' := Lib.hid hN'
                have HROW := Lib.hid (show ∀ v F9, Pic w p b c ⟨K, sd, N, X, S⟩ s' s' M' (9 * (k + 1)) F9 v → Calls Tryz.prog 27 #[.agg N', .int .i64 (r : Int), .int .i64 (m' : Int)] v fun e v' => ∃ A' c', e = .returned (.slice A' len c') ∧ Below v.heap.size v v' from fun v F9 h => by
                  have hl9 := h.ref.len
                  have := Net.ref_row h.ref.net (r : Int) (m' : Int) (by omega)
                  rw [hN'] at this
                  refine this.mono ?_
                  rintro e v' ⟨A9, c9, K9, rfl, _, _, hb9⟩
                  rw [hlen]
                  exact ⟨A9, c9, rfl, hb9⟩)
                have HRLOOK := Lib.hid (show ∀ v F9 j, Pic w p b c ⟨K, sd, N, X, S⟩ s' s' M' (9 * (k + 1)) F9 v → Calls Tryz.prog 29 #[.agg N', .int .i64 (r : Int), .int .i64 (m' : Int), .int .i64 j] v fun e v' => e = .returned (.tuple #[.string (s'.n.look (r : Int) (m' : Int) j), .bool (s'.n.isAt (r : Int) (m' : Int) j)]) ∧ Below v.heap.size v v' from fun v F9 j h => by
                  have hl9 := h.ref.len
                  have := Net.ref_look h.ref.net (r : Int) (m' : Int) j (by omega)
                  rwa [hN'] at this)
                have HME := Lib.hid e3
                clear hR' hnb hxs hz0 hy0 hen hlen hN' e1 e2 e3 e4 hme hm hmr
                go_wp2_with fail
                refine' wp_flow [only 0 _, only 1 _, own 2 (fun y v => ∃ A' c' G', y = .slice A' xs.length c' ∧ Vec v G' 1 A' xs.length c' (xs.map .string)), only 3 (.agg R'), only 4 _, only 5 (.slice (M'.g me).A xs.length (M'.g me).c), only 6 (.bool true), only 7 (.bool false), only 8 (.bool false), only 9 _, only 10 _, only 11 (.int .i64 (nb : Int)), only 12 (.agg R'), only 13 _, only 14 (.agg #[a0, a1, a2, a3, .slice (M'.A me) nb (M'.c me), a5, a6, a7, a8, a9, a10]), only 15 (.slice (M'.A me) nb (M'.c me)), only 16 (.int .i64 (nb : Int)), only 17 (.bool false), only 18 (.bool false)] (fun v => ∃ F9, Pic w p b c ⟨K, sd, N, X, S⟩ s' s' M' (9 * (k + 1)) F9 v) [[], [], [0, 1], [], [], [3, 4], [2, 5], [6], [7], [8], [8], [8, 9, 10], [8], [8], [8, 12, 13], [8, 14], [8, 15], [8, 11, 16], [8, 17]] [[], [], [], [], [], [], [2], [], [], [], [], [], [], [], [], [], [], [], []] [[], [], [], [], [], [], [], [], [], [], [], [], [], [], [], [], [], [], []] [[], [], [], [2], [2], [2], [], [], [], [], [], [], [], [], [], [], [], [], []] [2] [0, 0, 3, 0, 0, 24, 63, 127, 255, 511, 511, 2047, 511, 511, 12799, 29183, 61951, 131071, 262143] _ (fun us => ?hfr) (by kernel_rfl) (by kernel_rfl) (by kernel_rfl) ⟨only_still _, only_still _, trivial, only_still _, only_still _, only_still _, only_still _, only_still _, only_still _, only_still _, only_still _, only_still _, only_still _, only_still _, only_still _, only_still _, only_still _, only_still _, only_still _, trivial⟩ (⟨F8, HP8.out.drewN 1⟩) (by simp) (trivial) ?hst ?hla
                case hfr => (simp only [List.cons_append, List.nil_append, putAll, Act.put, List.setIfInBounds_toArray, List.set_cons_zero, List.set_cons_succ, Nat.reduceAdd]; rfl)
                case hst =>
                  refine ⟨?_, ?_, ?_, ?_, ?_, ?_, ?_, ?_, ?_, ?_, ?_, ?_, ?_, ?_, ?_, ?_, ?_, ?_, ?_, trivial⟩
                  · intro us v hR hn ho K hK
                    clear ho
                    obtain ⟨F9, hp9⟩ := id hR; have hbx : v.heap[b]? = some (.cells R' 35 (0, 0)) := by rw [← HR'.out]; exact hp9.box
                    rw [if_pos (by rfl)]
                    go_simp
                    refine hK _ _ _ (by simp only [Act.put, List.setIfInBounds_toArray, List.set_cons_zero, List.set_cons_succ, Nat.reduceAdd] <;> rfl) ?_ hR trivial
                    refine only_mk (v := v) ?_
                    with_reducible rfl
                  · intro us v hR hn ho K hK
                    clear ho
                    obtain ⟨F9, hp9⟩ := id hR; have hbx : v.heap[b]? = some (.cells R' 35 (0, 0)) := by rw [← HR'.out]; exact hp9.box
                    rw [if_pos (by rfl)]
                    go_simp
                    refine hK _ _ _ (by simp only [Act.put, List.setIfInBounds_toArray, List.set_cons_zero, List.set_cons_succ, Nat.reduceAdd] <;> rfl) ?_ hR trivial
                    refine only_mk (v := v) ?_
                    with_reducible rfl
                  · intro us v hR hn ho K hK
                    obtain ⟨n0, n1, -⟩ := hn
                    have n0 : us 0 = _ := n0
                    have n1 : us 1 = _ := n1
                    clear ho
                    obtain ⟨F9, hp9⟩ := id hR; have hbx : v.heap[b]? = some (.cells R' 35 (0, 0)) := by rw [← HR'.out]; exact hp9.box
                    rw [if_pos (by rfl)]
                    clear hbx
                    go_simp
                    refine (HGOT.out v F9 hp9).mono ?_
                    rintro e v' ⟨A', c', G', rfl, h1, h2⟩
                    dsimp only
                    exact hK _ _ _ (by simp only [Act.put, List.setIfInBounds_toArray, List.set_cons_zero, List.set_cons_succ, Nat.reduceAdd, n0, n1] <;> rfl) ⟨A', c', G', rfl, h1⟩ ⟨F9, hp9.after h2⟩ trivial
                  · intro us v hR hn ho K hK
                    clear ho
                    obtain ⟨F9, hp9⟩ := id hR; have hbx : v.heap[b]? = some (.cells R' 35 (0, 0)) := by rw [← HR'.out]; exact hp9.box
                    have hcs : (Tryz.prog.info? 35).map (·.size) = some R'.size := by rw [HS'.out]; exact infoP
                    rw [if_pos (by rfl)]
                    refine wp_load_row 35 _ (by rfl) b (by rfl) 35 R' (0, 0) _ hbx Tryz.underlying35 rfl hcs ?_
                    refine hK _ _ _ (by simp only [Act.put, List.setIfInBounds_toArray, List.set_cons_zero, List.set_cons_succ, Nat.reduceAdd] <;> rfl) ?_ hR ⟨fun h => h, trivial⟩
                    exact only_mk (v := v) rfl
                  · intro us v hR hn ho K hK
                    clear ho
                    obtain ⟨F9, hp9⟩ := id hR; have hbx : v.heap[b]? = some (.cells R' 35 (0, 0)) := by rw [← HR'.out]; exact hp9.box
                    rw [if_pos (by rfl)]
                    go_simp
                    refine hK _ _ _ (by simp only [Act.put, List.setIfInBounds_toArray, List.set_cons_zero, List.set_cons_succ, Nat.reduceAdd] <;> rfl) ?_ hR ⟨fun h => h, trivial⟩
                    refine only_mk (v := v) ?_
                    with_reducible rfl
                  · intro us v hR hn ho K hK
                    obtain ⟨n3, n4, -⟩ := hn
                    have n3 : us 3 = _ := n3
                    have n4 : us 4 = _ := n4
                    clear ho
                    obtain ⟨F9, hp9⟩ := id hR; have hbx : v.heap[b]? = some (.cells R' 35 (0, 0)) := by rw [← HR'.out]; exact hp9.box
                    rw [if_pos (by rfl)]
                    clear hbx
                    go_simp
                    refine (HRGOT.out v).mono ?_
                    rintro e v' ⟨rfl, h2⟩
                    dsimp only
                    exact hK _ _ _ (by simp only [Act.put, List.setIfInBounds_toArray, List.set_cons_zero, List.set_cons_succ, Nat.reduceAdd, n3, n4] <;> rfl) (only_mk (v := v') rfl) ⟨F9, hp9.after h2⟩ ⟨fun ⟨A', c', G', q1, q2⟩ => ⟨A', c', G', q1, q2.after h2⟩, trivial⟩
                  · intro us v hR hn ho K hK
                    obtain ⟨n2, n5, -⟩ := hn
                    have n5 : us 5 = _ := n5
                    clear ho
                    obtain ⟨F9, hp9⟩ := id hR; have hbx : v.heap[b]? = some (.cells R' 35 (0, 0)) := by rw [← HR'.out]; exact hp9.box
                    obtain ⟨A', c', G', n2, hv2⟩ := n2
                    rw [if_pos (by rfl)]
                    clear hbx
                    go_simp
                    refine (Link.texts_is hv2 (HRV.out v F9 hp9) (by omega)).mono ?_
                    rintro e v' ⟨rfl, nn, rfl⟩
                    dsimp only
                    exact hK _ _ _ (by simp only [Act.put, List.setIfInBounds_toArray, List.set_cons_zero, List.set_cons_succ, Nat.reduceAdd, n5, n2] <;> rfl) (only_mk (v := v) rfl) ⟨F9, hp9.drewN nn⟩ trivial
                  · intro us v hR hn ho K hK
                    obtain ⟨n6, -⟩ := hn
                    have n6 : us 6 = _ := n6
                    clear ho
                    obtain ⟨F9, hp9⟩ := id hR; have hbx : v.heap[b]? = some (.cells R' 35 (0, 0)) := by rw [← HR'.out]; exact hp9.box
                    rw [if_pos (by rfl)]
                    go_simp
                    refine hK _ _ _ (by simp only [Act.put, List.setIfInBounds_toArray, List.set_cons_zero, List.set_cons_succ, Nat.reduceAdd, n6] <;> rfl) ?_ hR trivial
                    refine only_mk (v := v) ?_
                    with_reducible rfl
                  · intro us v hR hn ho K hK
                    obtain ⟨n7, -⟩ := hn
                    have n7 : us 7 = _ := n7
                    clear ho
                    obtain ⟨F9, hp9⟩ := id hR; have hbx : v.heap[b]? = some (.cells R' 35 (0, 0)) := by rw [← HR'.out]; exact hp9.box
                    rw [if_pos (by rfl)]
                    go_simp
                    refine hK _ _ _ (by simp only [Act.put, List.setIfInBounds_toArray, List.set_cons_zero, List.set_cons_succ, Nat.reduceAdd, n7] <;> rfl) ?_ hR trivial
                    refine only_mk (v := v) ?_
                    with_reducible rfl
                  · intro us v hR hn ho K hK
                    obtain ⟨n8, -⟩ := hn
                    have n8 : us 8 = _ := n8
                    clear ho
                    obtain ⟨F9, hp9⟩ := id hR; have hbx : v.heap[b]? = some (.cells R' 35 (0, 0)) := by rw [← HR'.out]; exact hp9.box
                    rw [if_pos (by simp [Region.wanted, yielded, n8])]
                    go_simp
                    refine hK _ _ _ (by simp only [Act.put, List.setIfInBounds_toArray, List.set_cons_zero, List.set_cons_succ, Nat.reduceAdd, n8] <;> rfl) ?_ hR trivial
                    refine only_mk (v := v) ?_
                    with_reducible rfl
                  · intro us v hR hn ho K hK
                    obtain ⟨n8, -⟩ := hn
                    have n8 : us 8 = _ := n8
                    clear ho
                    obtain ⟨F9, hp9⟩ := id hR; have hbx : v.heap[b]? = some (.cells R' 35 (0, 0)) := by rw [← HR'.out]; exact hp9.box
                    rw [if_pos (by simp [Region.wanted, yielded, n8])]
                    go_simp
                    refine hK _ _ _ (by simp only [Act.put, List.setIfInBounds_toArray, List.set_cons_zero, List.set_cons_succ, Nat.reduceAdd, n8] <;> rfl) ?_ hR trivial
                    refine only_mk (v := v) ?_
                    with_reducible rfl
                  · intro us v hR hn ho K hK
                    obtain ⟨n8, n9, n10, -⟩ := hn
                    have n8 : us 8 = _ := n8
                    have n9 : us 9 = _ := n9
                    have n10 : us 10 = _ := n10
                    clear ho
                    obtain ⟨F9, hp9⟩ := id hR; have hbx : v.heap[b]? = some (.cells R' 35 (0, 0)) := by rw [← HR'.out]; exact hp9.box
                    rw [if_pos (by simp [Region.wanted, yielded, n8])]
                    clear hbx
                    go_simp
                    refine (HWAIT.out v F9 hp9).mono ?_
                    rintro e v' ⟨rfl, rfl⟩
                    dsimp only
                    exact hK _ _ _ (by simp only [Act.put, List.setIfInBounds_toArray, List.set_cons_zero, List.set_cons_succ, Nat.reduceAdd, n8, n9, n10, n8] <;> rfl) (only_mk (v := v) rfl) hR trivial
                  · intro us v hR hn ho K hK
                    obtain ⟨n8, -⟩ := hn
                    have n8 : us 8 = _ := n8
                    clear ho
                    obtain ⟨F9, hp9⟩ := id hR; have hbx : v.heap[b]? = some (.cells R' 35 (0, 0)) := by rw [← HR'.out]; exact hp9.box
                    have hcs : (Tryz.prog.info? 35).map (·.size) = some R'.size := by rw [HS'.out]; exact infoP
                    rw [if_pos (by simp [Region.wanted, yielded, n8])]
                    refine wp_load_row 35 _ (by rfl) b (by rfl) 35 R' (0, 0) _ hbx Tryz.underlying35 rfl hcs ?_
                    refine hK _ _ _ (by simp only [Act.put, List.setIfInBounds_toArray, List.set_cons_zero, List.set_cons_succ, Nat.reduceAdd, n8, n8] <;> rfl) ?_ hR trivial
                    exact only_mk (v := v) rfl
                  · intro us v hR hn ho K hK
                    obtain ⟨n8, -⟩ := hn
                    have n8 : us 8 = _ := n8
                    clear ho
                    obtain ⟨F9, hp9⟩ := id hR; have hbx : v.heap[b]? = some (.cells R' 35 (0, 0)) := by rw [← HR'.out]; exact hp9.box
                    rw [if_pos (by simp [Region.wanted, yielded, n8])]
                    go_simp
                    refine hK _ _ _ (by simp only [Act.put, List.setIfInBounds_toArray, List.set_cons_zero, List.set_cons_succ, Nat.reduceAdd, n8] <;> rfl) ?_ hR trivial
                    refine only_mk (v := v) ?_
                    with_reducible rfl
                  · intro us v hR hn ho K hK
                    obtain ⟨n8, n12, n13, -⟩ := hn
                    have n8 : us 8 = _ := n8
                    have n12 : us 12 = _ := n12
                    have n13 : us 13 = _ := n13
                    clear ho
                    obtain ⟨F9, hp9⟩ := id hR; have hbx : v.heap[b]? = some (.cells R' 35 (0, 0)) := by rw [← HR'.out]; exact hp9.box
                    rw [if_pos (by simp [Region.wanted, yielded, n8])]
                    clear hbx
                    go_simp
                    refine (HEND.out v).mono ?_
                    rintro e v' ⟨rfl, h2⟩
                    dsimp only
                    exact hK _ _ _ (by simp only [Act.put, List.setIfInBounds_toArray, List.set_cons_zero, List.set_cons_succ, Nat.reduceAdd, n8, n12, n13, n8] <;> rfl) (only_mk (v := v') rfl) ⟨F9, hp9.after h2⟩ trivial
                  · intro us v hR hn ho K hK
                    obtain ⟨n8, n14, -⟩ := hn
                    have n8 : us 8 = _ := n8
                    have n14 : us 14 = _ := n14
                    clear ho
                    obtain ⟨F9, hp9⟩ := id hR; have hbx : v.heap[b]? = some (.cells R' 35 (0, 0)) := by rw [← HR'.out]; exact hp9.box
                    rw [if_pos (by simp [Region.wanted, yielded, n8])]
                    go_simp
                    refine hK _ _ _ (by simp only [Act.put, List.setIfInBounds_toArray, List.set_cons_zero, List.set_cons_succ, Nat.reduceAdd, n8, n14, n8, n14] <;> rfl) ?_ hR trivial
                    exact only_mk (v := v) rfl
                  · intro us v hR hn ho K hK
                    obtain ⟨n8, n15, -⟩ := hn
                    have n8 : us 8 = _ := n8
                    have n15 : us 15 = _ := n15
                    clear ho
                    obtain ⟨F9, hp9⟩ := id hR; have hbx : v.heap[b]? = some (.cells R' 35 (0, 0)) := by rw [← HR'.out]; exact hp9.box
                    rw [if_pos (by simp [Region.wanted, yielded, n8, n15])]
                    go_simp
                    refine hK _ _ _ (by simp only [Act.put, List.setIfInBounds_toArray, List.set_cons_zero, List.set_cons_succ, Nat.reduceAdd, n8, n15] <;> rfl) ?_ hR trivial
                    refine only_mk (v := v) ?_
                    with_reducible rfl
                  · intro us v hR hn ho K hK
                    obtain ⟨n8, n11, n16, -⟩ := hn
                    have n8 : us 8 = _ := n8
                    have n11 : us 11 = _ := n11
                    have n16 : us 16 = _ := n16
                    clear ho
                    obtain ⟨F9, hp9⟩ := id hR; have hbx : v.heap[b]? = some (.cells R' 35 (0, 0)) := by rw [← HR'.out]; exact hp9.box
                    rw [if_pos (by simp [Region.wanted, yielded, n8, n11, n16])]
                    go_simp
                    refine hK _ _ _ (by simp only [Act.put, List.setIfInBounds_toArray, List.set_cons_zero, List.set_cons_succ, Nat.reduceAdd, n8, n11, n16] <;> rfl) ?_ hR trivial
                    refine only_mk (v := v) ?_
                    with_reducible rfl
                  · intro us v hR hn ho K hK
                    obtain ⟨n8, n17, -⟩ := hn
                    have n8 : us 8 = _ := n8
                    have n17 : us 17 = _ := n17
                    clear ho
                    obtain ⟨F9, hp9⟩ := id hR; have hbx : v.heap[b]? = some (.cells R' 35 (0, 0)) := by rw [← HR'.out]; exact hp9.box
                    rw [if_pos (by rfl)]
                    go_simp
                    refine hK _ _ _ (by simp only [Act.put, List.setIfInBounds_toArray, List.set_cons_zero, List.set_cons_succ, Nat.reduceAdd, n8, n17] <;> rfl) ?_ hR trivial
                    refine only_mk (v := v) ?_
                    with_reducible rfl
                case hla =>
                  intro us v hR hl
                  obtain ⟨n0, n1, n3, n4, n5, n6, n7, n8, n9, n10, n11, n12, n13, n14, n15, n16, n17, n18, -⟩ := need_last hl [0, 1, 3, 4, 5, 6, 7, 8, 9, 10, 11, 12, 13, 14, 15, 16, 17, 18] (by kernel_rfl)
                  have n0 : us 0 = _ := n0
                  have n1 : us 1 = _ := n1
                  have n3 : us 3 = _ := n3
                  have n4 : us 4 = _ := n4
                  have n5 : us 5 = _ := n5
                  have n6 : us 6 = _ := n6
                  have n7 : us 7 = _ := n7
                  have n8 : us 8 = _ := n8
                  have n9 : us 9 = _ := n9
                  have n10 : us 10 = _ := n10
                  have n11 : us 11 = _ := n11
                  have n12 : us 12 = _ := n12
                  have n13 : us 13 = _ := n13
                  have n14 : us 14 = _ := n14
                  have n15 : us 15 = _ := n15
                  have n16 : us 16 = _ := n16
                  have n17 : us 17 = _ := n17
                  have n18 : us 18 = _ := n18
                  obtain ⟨F9, hp9⟩ := id hR; have hbx : v.heap[b]? = some (.cells R' 35 (0, 0)) := by rw [← HR'.out]; exact hp9.box
                  simp only [n0, n1, n3, n4, n5, n6, n7, n8, n9, n10, n11, n12, n13, n14, n15, n16, n17, n18]
                  clear hl n0 n1 n3 n4 n5 n6 n7 n8 n9 n10 n11 n12 n13 n14 n15 n16 n17 n18
                  have HP9 := Lib.hid hp9
                  clear hbx hp9 hR
                  have HBN := Lib.hid (show v.rangeAt b 24 (M'.net s'.n) from HP9.out.box.n (RM.fits _ _))
                  go_wp2_with (refine wpList_load_mid rfl 33 _ rfl b 24 rfl (M'.net s'.n) _ HBN.out Tryz.underlying33 rfl infoN ?_; rw [HN'.out])
                  refine (HROW.out _ _ HP9.out).mono ?_
                  rintro e w11 ⟨A9, c9, rfl, hb11⟩
                  have HP11 := Lib.hid (HP9.out.after hb11)
                  clear hb11
                  go_wp2_with fail
                  change Code.wp _ _ _ _ _
                  go_loopw [34] (fun i wx => ∃ j : Int, -1 ≤ j ∧ j ≤ (len : Int) + 1 ∧ i = .int .i64 j ∧ ∃ F9, Pic w p b c ⟨K, sd, N, X, S⟩ s' s' M' (9 * (k + 1)) F9 wx) (fun i _ => ((len : Int) + 1 - intOf i).toNat)
                  case atStart => exact ⟨-1, by omega, by omega, rfl, _, HP11.out⟩
                  case round =>
                    obtain ⟨j, hj1, hj2, rfl, F12, hp12⟩ := hrel
                    have HP12 := Lib.hid hp12
                    clear hp12
                    by_cases hjl : j ≤ (len : Int)
                    · have dj : decide (j ≤ (len : Int)) = true := by simpa using hjl
                      obtain ⟨tt, htt⟩ : ∃ tt, s'.n.look (r : Int) (m' : Int) j = tt := ⟨_, rfl⟩
                      obtain ⟨ti, hti⟩ : ∃ ti, s'.n.isAt (r : Int) (m' : Int) j = ti := ⟨_, rfl⟩
                      have hcl := HLOOK.out _ _ j HP12.out
                      rw [htt, hti] at hcl
                      have HCL := Lib.hid hcl
                      have HTI := Lib.hid (And.intro htt hti)
                      clear hcl htt hti
                      go_wp2_with fail
                      refine (HCL.out).mono ?_
                      rintro e w13 ⟨rfl, F13, hp13⟩
                      have hcr := HRLOOK.out _ _ j hp13
                      rw [HTI.out.1, HTI.out.2] at hcr
                      have HCR := Lib.hid hcr
                      have HP13 := Lib.hid hp13
                      have HBN13 := Lib.hid (show w13.rangeAt b 24 (M'.net s'.n) from hp13.box.n (RM.fits _ _))
                      clear hcr hp13
                      go_wp2_with (refine wpList_load_mid rfl 33 _ rfl b 24 rfl (M'.net s'.n) _ HBN13.out Tryz.underlying33 rfl infoN ?_; rw [HN'.out])
                      refine (HCR.out).mono ?_
                      rintro e w14 ⟨rfl, hb14⟩
                      have HP14 := Lib.hid (HP13.out.after hb14)
                      clear hb14
                      go_wp2_with fail
                      go_roundw
                      case rel => exact ⟨j + 1, by omega, by omega, by go_num, _, HP14.out⟩
                      case measure => simp [intOf]; omega
                    · have dj : decide (j ≤ (len : Int)) = false := by simpa using hjl
                      go_wp2_with fail
                      go_roundw
                      case rel => exact ⟨m' + 1, by omega, by go_num, _, HP12.out⟩
                      case measure => simp [intOf]; omega
              · have hm3 : m = 2 := by omega
                have dm : decide ((m : Int) < 2) = false := by simp; omega
                have HN := Lib.hid (HP8.out.both HF'.out)
                clear hm3
                go_wp2_with fail
                go_roundw
                case rel => exact ⟨k + 1, hlt, by go_num, HN.out⟩
                case measure => simp [intOf]; omega
      · obtain rfl : k = l.length := by omega
        go_wp2_with fail
        go_ret
        exact ⟨rfl, HR.out.choose_spec.choose_spec.choose_spec.2.1⟩
end Go.Proofs.YtihhflajkohibaaGreatDoor.Pipe
