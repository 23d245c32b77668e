/- Layer 8: the walk of NetOnly. Conditions: the slice of acts lies in memory that came in. -/
import Derived.Test.YtndiclkfincbgaaNetLaws
namespace Go.Proofs.Ytndiclkfincbgaa.Net
set_option linter.unusedSimpArgs false
set_option linter.unusedVariables false
open Go.RowKit
theorem text_ext {a b : ByteArray} (h : a.toList = b.toList) : a = b := by
  rw [Lib.toList_data, Lib.toList_data] at h
  exact ByteArray.ext (Array.ext' h)
structure OnlyRel (w : World) (p : Nat) (l : List Act8) (wr : World) : Prop where
  all : ∃ s F, Stand w p s F wr ∧ s.Small ∧ AllSent s l
theorem any_succ (l : List Act8) (k : Nat) (hk : k < l.length) (f : Act8 → Bool) : (l.take (k + 1)).any f = ((l.take k).any f || f l[k]) := by
  rw [List.take_succ_eq_append_getElem hk, List.any_append]; simp
set_option maxRecDepth 100000 in
set_option maxHeartbeats 16000000 in
theorem only_walk (n room : Int) (A : Option Addr) (c : Nat) (l : List Act8) (w : World) (hA : Sl w 0 w.heap.size 6 A l.length (l.flatMap Act8.cells)) (hy : l.length ≤ maxLen) :
    Calls Try.prog 4 #[.int .i64 n, .int .i64 room, .slice A l.length c] w fun e w' => e = .returned (.bool true) ∧ Below w.heap.size w w' := by
  have hy' := hy
  unfold maxLen at hy
  go_enter Try.func4, Try.ntmps4
  go_wp2_with fail
  refine (new_any n room _).mono ?_
  rintro e w1 ⟨p, F, rfl, hn, hF, hb⟩
  have HS := Lib.hid (show Stand w p (new n room) F w1 from ⟨hn, hF, hb⟩)
  clear hn hF hb
  go_wp2_with fail
  refine (awake_any _).mono ?_
  rintro e w2 ⟨rfl, hb2⟩
  have HS := Lib.hid (HS.out.after (HS.out.net.after hb2) hb2)
  clear hb2
  go_wp2_with fail
  refine (few_any (hA.below HS.out.below (Nat.le_refl _)) hy').mono ?_
  rintro e w3 ⟨⟨b0, rfl, hfew⟩, rfl⟩
  have HFEW := Lib.hid hfew
  clear hfew
  cases b0
  · go_wp2_with fail
    refine (awake_any _).mono ?_
    rintro e w3 ⟨rfl, hb3⟩
    have HS3 := Lib.hid (HS.out.after (HS.out.net.after hb3) hb3)
    clear hb3
    go_wp2_with fail
    go_ret
    exact ⟨rfl, HS3.out.below⟩
  · obtain ⟨h60, hshort⟩ := HFEW.out rfl
    have HSHORT := Lib.hid hshort
    have hrel : OnlyRel w p (l.take 0) w2 := ⟨_, F, HS.out, fun _ _ _ h => by simp [new] at h, fun _ _ _ h => by simp [new] at h⟩
    have HREL := Lib.hid hrel
    clear hshort hrel
    go_wp2_with fail
    go_loopw [8] (fun i wr => ∃ k : Nat, k ≤ l.length ∧ i = .int .i64 (k : Int) ∧ OnlyRel w p (l.take k) wr) (fun i _ => l.length - (intOf i).toNat)
    case atStart => exact ⟨0, Nat.zero_le _, rfl, HREL.out⟩
    case round =>
      obtain ⟨k, hk, rfl, hr⟩ := hrel
      obtain ⟨s, F, hst, hsm, hse⟩ := hr.all
      have HST := Lib.hid hst
      have HSM := Lib.hid hsm
      have HSE := Lib.hid hse
      clear hr hst hsm hse
      by_cases hlt : k < l.length
      · have hA1 := hA.below HST.out.below (Nat.le_refl _)
        obtain ⟨g, o, rfl, _, hgl, hat⟩ := acts_at hA1 hlt
        have i0' : (0 : Int) ≤ (k : Int) := by omega
        have i1 : (k : Int) < (l.length : Int) := by omega
        have hsh := HSHORT.out l[k] (List.getElem_mem hlt)
        have HAT := Lib.hid hat
        have HTK := Lib.hid (List.take_succ_eq_append_getElem hlt)
        have HLK := Lib.hid (show ∀ x, x = l[k] → x = l[k] from fun _ h => h)
        clear hat
        generalize hla : l[k] = a at *
        have HLA := Lib.hid hla
        clear hla
        obtain ⟨K, A, B, N, X, S⟩ := a
        obtain ⟨c0, c1, c2, c3, c4, c5⟩ := HAT.out
        simp only at c0 c1 c2 c3 c4 c5 hsh
        have HSH := Lib.hid hsh
        clear hsh
        by_cases k0 : K < 0
        · have d1 : decide (K < 0) = true := by simpa using k0
          have HN := Lib.hid (show OnlyRel w p (l.take (k + 1)) wr from ⟨s, F, HST.out, HSM.out, by rw [HTK.out]; exact HSE.out.more _⟩)
          go_wp2_with fail
          go_roundw
          case rel => exact ⟨k + 1, hlt, by go_num, HN.out⟩
          case measure => simp [intOf]; omega
        · have d1 : decide (K < 0) = false := by simpa using k0
          by_cases k2 : 2 < K
          · have d2 : decide (2 < K) = true := by simpa using k2
            have HN := Lib.hid (show OnlyRel w p (l.take (k + 1)) wr from ⟨s, F, HST.out, HSM.out, by rw [HTK.out]; exact HSE.out.more _⟩)
            go_wp2_with fail
            go_roundw
            case rel => exact ⟨k + 1, hlt, by go_num, HN.out⟩
            case measure => simp [intOf]; omega
          · have d2 : decide (2 < K) = false := by simpa using k2
            go_wp2_with fail
            refine (act_any HST.out.net HSM.out ⟨K, A, B, N, X, S⟩).mono ?_
            rintro e w6 ⟨rfl, F6, hn6, ht6⟩
            have hst6 := HST.out.step hn6 ht6
            have HST6 := Lib.hid hst6
            have HN := Lib.hid (show OnlyRel w p (l.take (k + 1)) w6 from ⟨_, F6, hst6, HSM.out.act _ HSH.out, by rw [HTK.out]; exact HSE.out.act _ (by simpa using k0) (by simpa using k2)⟩)
            have hres : K = 1 → s.actOk ⟨K, A, B, N, X, S⟩ = true → (l.take k).any (isSent (s.actS ⟨K, A, B, N, X, S⟩) A B) = true := by
              intro e1 e2
              subst e1
              rw [sent_any]
              exact HSE.out _ _ _ (mem_look e2)
            have HRES := Lib.hid hres
            clear hn6 ht6 hres c0 c1 c2 c3 c4 c5 d1 d2
            generalize hok : s.actOk ⟨K, A, B, N, X, S⟩ = ok at *
            generalize hss : s.actS ⟨K, A, B, N, X, S⟩ = ss at *
            clear hok hss
            have hA6 := hA.below hst6.below (Nat.le_refl _)
            clear hst6
            go_wp2_with fail
            obtain ⟨wo, hwo⟩ : ∃ wo : World, wo = wr := ⟨_, rfl⟩
            clear hwo
            go_loopw [11, 12] (fun b j wx => ∃ m : Nat, m ≤ k ∧ j = .int .i64 (m : Int) ∧ b = .bool ((l.take m).any (isSent ss A B)) ∧ ∃ q, wx = w6.drewN q) (fun _ j _ => k - (intOf j).toNat)
            case atStart => exact ⟨0, Nat.zero_le _, rfl, by simp, 0, rfl⟩
            case round =>
              obtain ⟨m, hm, rfl, rfl, q, rfl⟩ := hrel
              by_cases hmt : m < k
              · have d3 : decide (m < k) = true := by simpa using hmt
                have hml : m < l.length := by omega
                have hsu := any_succ l m hml (isSent ss A B)
                have HSU := Lib.hid hsu
                obtain ⟨g1, o1, e1, _, _, hat1⟩ := acts_at hA6 hlt
                injection e1 with e1
                injection e1 with e11 e12
                subst e11; subst e12
                obtain ⟨g2, o2, e2, _, _, hat2⟩ := acts_at hA6 hml
                injection e2 with e2
                injection e2 with e21 e22
                subst e21; subst e22
                rw [HLA.out] at hat1
                have a1 := hat1.c1
                have a2 := hat1.c2
                simp only at a1 a2
                clear hat1 hsu
                generalize l[m] = z at *
                obtain ⟨K2, A2, B2, N2, X2, S2⟩ := z
                have z0 := hat2.c0
                have z1 := hat2.c1
                have z2 := hat2.c2
                have z5 := hat2.c5
                simp only at z0 z1 z2 z5
                have i2 : (0 : Int) ≤ (m : Int) := by omega
                have i3 : (m : Int) < (l.length : Int) := by omega
                clear hat2
                generalize (l.take m).any (isSent ss A B) = sent at *
                cases sent
                · by_cases q0 : K2 = 0
                  · by_cases q1 : A2 = A
                    · by_cases q2 : B2 = B
                      · by_cases q5 : S2 = ss
                        · have hr : isSent ss A B ⟨K2, A2, B2, N2, X2, S2⟩ = true := by simp [isSent, q0, q1, q2, q5]
                          have HR := Lib.hid hr
                          subst q0; subst q1; subst q2; subst q5
                          clear hr
                          go_wp2_with fail
                          go_quiet (fail)
                          go_wp2_with fail
                          go_roundw
                          case rel => exact ⟨m + 1, by omega, by go_num, by rw [HSU.out, HR.out]; rfl, _, rfl⟩
                          case measure => simp [intOf]; omega
                        · have hr : isSent ss A B ⟨K2, A2, B2, N2, X2, S2⟩ = false := by simp [isSent, q5]
                          have HR := Lib.hid hr
                          subst q0; subst q1; subst q2
                          have d6 : (S2.toList == ss.toList) = false := beq_eq_false_iff_ne.2 fun h => q5 (text_ext h)
                          clear q5
                          clear hr
                          go_wp2_with fail
                          go_quiet (fail)
                          go_wp2_with fail
                          go_roundw
                          case rel => exact ⟨m + 1, by omega, by go_num, by rw [HSU.out, HR.out]; rfl, _, rfl⟩
                          case measure => simp [intOf]; omega
                      · have hr : isSent ss A B ⟨K2, A2, B2, N2, X2, S2⟩ = false := by simp [isSent, q2]
                        have HR := Lib.hid hr
                        subst q0; subst q1
                        have d5 : (B2 == B) = false := beq_eq_false_iff_ne.2 q2
                        clear q2
                        clear hr
                        go_wp2_with fail
                        go_quiet (fail)
                        go_wp2_with fail
                        go_roundw
                        case rel => exact ⟨m + 1, by omega, by go_num, by rw [HSU.out, HR.out]; rfl, _, rfl⟩
                        case measure => simp [intOf]; omega
                    · have hr : isSent ss A B ⟨K2, A2, B2, N2, X2, S2⟩ = false := by simp [isSent, q1]
                      have HR := Lib.hid hr
                      subst q0
                      have d5 : (A2 == A) = false := beq_eq_false_iff_ne.2 q1
                      clear q1
                      clear hr
                      go_wp2_with fail
                      go_quiet (fail)
                      go_wp2_with fail
                      go_roundw
                      case rel => exact ⟨m + 1, by omega, by go_num, by rw [HSU.out, HR.out]; rfl, _, rfl⟩
                      case measure => simp [intOf]; omega
                  · have hr : isSent ss A B ⟨K2, A2, B2, N2, X2, S2⟩ = false := by simp [isSent, q0]
                    have HR := Lib.hid hr
                    have d5 : (K2 == 0) = false := beq_eq_false_iff_ne.2 q0
                    clear q0
                    clear hr
                    go_wp2_with fail
                    go_quiet (fail)
                    go_wp2_with fail
                    go_roundw
                    case rel => exact ⟨m + 1, by omega, by go_num, by rw [HSU.out, HR.out]; rfl, _, rfl⟩
                    case measure => simp [intOf]; omega
                · go_wp2_with fail
                  go_quiet (fail)
                  go_wp2_with fail
                  go_roundw
                  case rel => exact ⟨m + 1, by omega, by go_num, by rw [HSU.out, Bool.true_or], _, rfl⟩
                  case measure => simp [intOf]; omega
              · obtain rfl : m = k := by omega
                have d3 : decide (m < m) = false := by simp
                have HRW := Lib.hid (show OnlyRel w p (l.take (m + 1)) (w6.drewN q) from by
                  obtain ⟨s, F, h1, h2, h3⟩ := HN.out.all
                  exact ⟨s, F, h1.after (h1.net.drewN q) (below_drewN (Below.refl _ _) q), h2, h3⟩)
                obtain ⟨g1, o1, e1, _, _, hat1⟩ := acts_at hA6 hlt
                injection e1 with e1
                injection e1 with e11 e12
                subst e11; subst e12
                rw [HLA.out] at hat1
                have a0 := hat1.c0
                simp only at a0
                clear hat1
                generalize (l.take m).any (isSent ss A B) = sent at *
                by_cases q0 : K = 1
                · subst q0
                  cases ok
                  · go_wp2_with fail
                    go_roundw
                    case rel => exact ⟨m + 1, by omega, by go_num, HRW.out⟩
                    case measure => simp [intOf]; omega
                  · obtain rfl : sent = true := HRES.out rfl rfl
                    go_wp2_with fail
                    go_roundw
                    case rel => exact ⟨m + 1, by omega, by go_num, HRW.out⟩
                    case measure => simp [intOf]; omega
                · have d5 : (K == 1) = false := beq_eq_false_iff_ne.2 q0
                  clear q0
                  go_wp2_with fail
                  go_roundw
                  case rel => exact ⟨m + 1, by omega, by go_num, HRW.out⟩
                  case measure => simp [intOf]; omega
      · obtain rfl : k = l.length := by omega
        go_wp2_with fail
        go_ret
        exact ⟨rfl, HST.out.below⟩
end Go.Proofs.Ytndiclkfincbgaa.Net
