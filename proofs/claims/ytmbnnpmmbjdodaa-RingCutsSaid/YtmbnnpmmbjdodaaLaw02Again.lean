/- Layer 2: the walk of RingAgain. Conditions: the slice lies in memory that came in; the number is one of eight bits. -/
import Derived.Test.YtmbnnpmmbjdodaaLaw02Full
namespace Go.Proofs.Ytmbnnpmmbjdodaa
set_option linter.unusedSimpArgs false
set_option linter.unusedVariables false
open Go.RowKit

theorem take_push {m k : Nat} {ys : List Int} (hk : k < ys.length) : RingI.pushed m (ys.take (min k m)) ys[k] = ys.take (min (k + 1) m) ∧ decide ((ys.take (min k m)).length < m) = decide (k < m) := by
  have hl : (ys.take (min k m)).length = min k m := by rw [List.length_take]; omega
  by_cases h : k < m
  · rw [show min k m = k from by omega] at *
    rw [show min (k + 1) m = k + 1 from by omega, hl]
    refine ⟨?_, rfl⟩
    unfold RingI.pushed
    rw [hl, if_pos h, List.take_succ_eq_append_getElem hk]
  · rw [show min k m = m from by omega] at *
    rw [show min (k + 1) m = m from by omega, hl]
    refine ⟨?_, by simp; omega⟩
    unfold RingI.pushed
    rw [hl, if_neg (by omega)]
theorem drop_pop {M k : Nat} {ys : List Int} (hk : k < M) (hM : M ≤ ys.length) : (ys.take M).drop k = (ys[k]'(by omega)) :: (ys.take M).drop (k + 1) := by
  rw [List.drop_eq_getElem_cons (by rw [List.length_take]; omega), List.getElem_take]
set_option maxRecDepth 100000 in
set_option maxHeartbeats 8000000 in
theorem again_walk (room : Int) (A : Option Addr) (c : Nat) (ys : List Int) (n : Int) (w : World) (hA : Sl w 0 w.heap.size 1 A ys.length (ys.map mkI)) (hy : ys.length ≤ maxLen) (hn0 : 0 ≤ n) (hn1 : n ≤ 255) :
    Calls Try.prog 8 #[.int .i64 room, .slice A ys.length c, .int .u8 n] w fun e w' => e = .returned (.bool true) ∧ Below w.heap.size w w' := by
  unfold maxLen at hy
  have hL : ∀ x, x ∈ [w.heap.size + 1, w.heap.size] → w.heap.size ≤ x := by simp
  have HL := Lib.hid hL
  clear hL
  have hm0 : (RingI.clamp room : Int) = min (max room 0) 1000 := by unfold RingI.clamp; omega
  have HM := Lib.hid hm0
  have hm1 : RingI.clamp room ≤ 1000 := by omega
  clear hm0
  by_cases h60 : ys.length ≤ 60
  · have hd1 : decide (60 < (ys.length : Int)) = false := by simp; omega
    go_enter Try.func8, Try.ntmps8
    go_wp2_with fail
    refine (RingI.new_has room _).mono ?_
    rintro e w1 ⟨rfl, h1, hb1⟩
    generalize RingI.clamp room = m at *
    go_wp2_with fail
    refine (awake_any _).mono ?_
    rintro e w2 ⟨rfl, hb2⟩
    have h2 := h1.below hb2 h1.p_lt h1.q_lt
    have hbw := hb1.trans (hb2.mono hb1.size)
    have hbs := hbw.size
    go_wp2_with fail
    go_loopw [8] (fun i wr => ∃ j : Nat, (j : Int) ≤ n % 40 ∧ i = .int .i64 (j : Int) ∧ RingI.Has wr (w.heap.size + 1) w.heap.size m [] ∧ Below w.heap.size w wr) (fun i _ => 40 - (intOf i).toNat)
    case atStart => exact ⟨0, by omega, rfl, h2, hbw⟩
    case round =>
      obtain ⟨j, hj, rfl, hr, hb⟩ := hrel
      by_cases hjn : (j : Int) < n % 40
      · go_wp2_with fail
        have hr0 : RingI.Has wr (w.heap.size + 1) w.heap.size m (ys.take (min 0 m)) := by simpa using hr
        clear hr
        obtain ⟨wo, rfl⟩ : ∃ wo : World, wo = wr := ⟨_, rfl⟩
        go_loopw [9, 10] (fun u i wr => ∃ k : Nat, k ≤ ys.length ∧ i = .int .i64 (k : Int) ∧ u = .int .i64 ((min k m : Nat) : Int) ∧ RingI.Has wr (w.heap.size + 1) w.heap.size m (ys.take (min k m)) ∧ Below w.heap.size w wr) (fun _ i _ => ys.length - (intOf i).toNat)
        case atStart => exact ⟨0, Nat.zero_le _, rfl, by simp, hr0, hb⟩
        case round =>
          obtain ⟨k, hk, rfl, rfl, hr, hb⟩ := hrel
          by_cases hlt : k < ys.length
          · have hA1 := hA.below hb (Nat.le_refl _)
            obtain ⟨b1, o1, rfl, _, hbl, hc1⟩ := hA1.at1 hlt
            rw [List.getElem?_map, List.getElem?_eq_getElem hlt] at hc1
            simp only [Option.map_some] at hc1
            obtain ⟨hp1, hp2⟩ := take_push (m := m) hlt
            have HP1 := Lib.hid hp1
            have HP2 := Lib.hid hp2
            clear hp1 hp2
            generalize ys[k] = y at *
            have i0' : (0 : Int) ≤ (k : Int) := by omega
            have i1 : (k : Int) < (ys.length : Int) := by omega
            go_wp2_with fail
            refine (RingI.push_has hr y).mono ?_
            rintro e w4 ⟨rfl, h4, hk4⟩
            rw [HP1.out] at h4
            rw [HP2.out]
            have hb4 := Kept.after hb hk4 HL.out
            by_cases hf : k < m
            · have hd : decide (k < m) = true := decide_eq_true hf
              have e1 : min k m = k := by omega
              have e2 : min (k + 1) m = k + 1 := by omega
              have E1 := Lib.hid e1
              have E2 := Lib.hid e2
              rw [e1]
              rw [e2] at h4
              clear hf e1 e2
              go_wp2_with fail
              go_roundw
              case rel => exact ⟨k + 1, hlt, by go_num, by rw [E2.out]; go_num, by rw [E2.out]; exact h4, hb4⟩
              case measure => simp [intOf]; omega
            · have hd : decide (k < m) = false := decide_eq_false hf
              have e3 : min (k + 1) m = min k m := by omega
              have E3 := Lib.hid e3
              rw [e3] at h4
              clear hf e3
              generalize min k m = mk0 at *
              go_wp2_with fail
              go_roundw
              case rel => exact ⟨k + 1, hlt, by go_num, by rw [E3.out], by rw [E3.out]; exact h4, hb4⟩
              case measure => simp [intOf]; omega
          · obtain rfl : k = ys.length := by omega
            have hM : min ys.length m ≤ ys.length := by omega
            have hMm : min ys.length m ≤ m := by omega
            have hmin : ys.length ≤ min ys.length m ∨ m ≤ min ys.length m := by omega
            have hr0 : RingI.Has wr (w.heap.size + 1) w.heap.size m ((ys.take (min ys.length m)).drop 0) := by simpa using hr
            clear hr
            generalize min ys.length m = M at *
            go_wp2_with fail
            obtain ⟨wo2, rfl⟩ : ∃ wo2 : World, wo2 = wr := ⟨_, rfl⟩
            go_loopw [11, 12, 13] (fun i ux uo wr => ∃ k : Nat, k ≤ M ∧ i = .int .i64 (k : Int) ∧ RingI.Has wr (w.heap.size + 1) w.heap.size m ((ys.take M).drop k) ∧ Below w.heap.size w wr) (fun i _ _ _ => M - (intOf i).toNat)
            case atStart => exact ⟨0, Nat.zero_le _, rfl, hr0, hb⟩
            case round =>
              obtain ⟨k, hk, rfl, hr, hb⟩ := hrel
              by_cases hlt : k < M
              · have hky : k < ys.length := by omega
                have hA1 := hA.below hb (Nat.le_refl _)
                obtain ⟨b1, o1, rfl, _, hbl, hc1⟩ := hA1.at1 hky
                rw [List.getElem?_map, List.getElem?_eq_getElem hky] at hc1
                simp only [Option.map_some] at hc1
                rw [drop_pop hlt hM] at hr
                generalize ys[k] = y at *
                have i0' : (0 : Int) ≤ (k : Int) := by omega
                have i1 : (k : Int) < (ys.length : Int) := by omega
                have hbs2 := hb.size
                have hne1 : b1 ≠ w.heap.size + 1 := by omega
                have hne2 : b1 ≠ w.heap.size := by omega
                go_wp2_with fail
                refine (RingI.pop_has hr).mono ?_
                rintro e w4 ⟨rfl, h4, hk4⟩
                have hc4 := (hk4.cell (p := ⟨b1, o1 + k, none⟩) (by simp; omega) (by simp [hne1, hne2])).trans hc1
                have hb4 := Kept.after hb hk4 HL.out
                simp only [List.tail_cons] at h4
                go_wp2_with fail
                go_roundw
                case rel => exact ⟨k + 1, hlt, by go_num, h4, hb4⟩
                case measure => simp [intOf]; omega
              · obtain rfl : k = M := by omega
                have he : (ys.take k).drop k = [] := List.drop_of_length_le (by rw [List.length_take]; omega)
                rw [he] at hr
                clear he hr0
                have hmm := HM.out
                have hcase : (room < 0 ∧ (m : Int) ≤ 0) ∨ (1000 < room ∧ 1000 ≤ (m : Int)) ∨ (0 ≤ room ∧ room ≤ 1000 ∧ room ≤ (m : Int) ∧ (m : Int) ≤ room) := by omega
                clear hmm
                rcases hcase with ⟨g1, g2⟩ | ⟨g1, g2⟩ | ⟨g1, g2, g3, g4⟩
                all_goals
                  go_wp2_with fail
                  all_goals
                    refine (RingI.len_has hr).mono ?_
                    rintro e w6 ⟨rfl, rfl⟩
                    go_wp2_with fail
                    refine (RingI.room_has hr).mono ?_
                    rintro e w6 ⟨rfl, n6, rfl⟩
                    go_wp2_with fail
                    all_goals
                      go_roundw
                      case rel => exact ⟨j + 1, by omega, by go_num, hr.drewN n6, below_drewN hb n6⟩
                      case measure => simp [intOf]; omega
      · obtain hje : (j : Int) = n % 40 := by omega
        have HJ := Lib.hid hje
        have hjn' : n % 40 ≤ (j : Int) := by omega
        clear hje
        go_wp2_with fail
        go_ret
        exact ⟨rfl, hb⟩
  · have hd : decide (60 < (ys.length : Int)) = true := by simp; omega
    go_enter Try.func8, Try.ntmps8
    go_wp2_with fail
    refine (RingI.new_has room _).mono ?_
    rintro e w1 ⟨rfl, h1, hb1⟩
    go_wp2_with fail
    refine (awake_any _).mono ?_
    rintro e w2 ⟨rfl, hb2⟩
    go_wp2_with fail
    refine (awake_any _).mono ?_
    rintro e w3 ⟨rfl, hb3⟩
    have hbw := hb1.trans (hb2.mono hb1.size)
    go_wp2_with fail
    go_ret
    exact ⟨rfl, hbw.trans (hb3.mono hbw.size)⟩
end Go.Proofs.Ytmbnnpmmbjdodaa
