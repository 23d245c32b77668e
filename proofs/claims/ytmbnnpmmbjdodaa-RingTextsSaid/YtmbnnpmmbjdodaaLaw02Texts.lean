/- Layer 2: the walk of RingTexts. Conditions: the slice of texts lies in memory that came in. -/
import Derived.Test.YtmbnnpmmbjdodaaLaw02Again
import Derived.Test.YtmbnnpmmbjdodaaRingS
namespace Go.Proofs.Ytmbnnpmmbjdodaa
open Go.RowKit

abbrev mkS : ByteArray → Value := Value.string
theorem take_pushS {m k : Nat} {ys : List ByteArray} (hk : k < ys.length) : RingS.pushed m (ys.take (min k m)) ys[k] = ys.take (min (k + 1) m) ∧ decide ((ys.take (min k m)).length < m) = decide (k < m) := by
  have hl : (ys.take (min k m)).length = min k m := by rw [List.length_take]; omega
  by_cases h : k < m
  · rw [show min k m = k from by omega] at *
    rw [show min (k + 1) m = k + 1 from by omega, hl]
    refine ⟨?_, rfl⟩
    unfold RingS.pushed
    rw [hl, if_pos h, List.take_succ_eq_append_getElem hk]
  · rw [show min k m = m from by omega] at *
    rw [show min (k + 1) m = m from by omega, hl]
    refine ⟨?_, by simp; omega⟩
    unfold RingS.pushed
    rw [hl, if_neg (by omega)]
theorem drop_popS {M k : Nat} {ys : List ByteArray} (hk : k < M) (hM : M ≤ ys.length) : (ys.take M).drop k = (ys[k]'(by omega)) :: (ys.take M).drop (k + 1) := by
  rw [List.drop_eq_getElem_cons (by rw [List.length_take]; omega), List.getElem_take]
set_option maxRecDepth 100000 in
set_option maxHeartbeats 8000000 in
theorem texts_walk (room : Int) (A : Option Addr) (c : Nat) (ys : List ByteArray) (w : World) (hA : Sl w 0 w.heap.size 1 A ys.length (ys.map mkS)) (hy : ys.length ≤ maxLen) :
    Calls Try.prog 7 #[.int .i64 room, .slice A ys.length c] w fun e w' => e = .returned (.bool true) ∧ Below w.heap.size w w' := by
  unfold maxLen at hy
  have hL : ∀ x, x ∈ [w.heap.size + 1, w.heap.size] → w.heap.size ≤ x := by simp
  have HL := Lib.hid hL
  clear hL
  have hm1 : RingS.clamp room ≤ 1000 := by unfold RingS.clamp; omega
  by_cases h60 : ys.length ≤ 60
  · have hd1 : decide (60 < (ys.length : Int)) = false := by simp; omega
    go_enter Try.func7, Try.ntmps7
    go_wp2_with fail
    refine (RingS.new_has room _).mono ?_
    rintro e w1 ⟨rfl, h1, hb1⟩
    generalize RingS.clamp room = m at *
    go_wp2_with fail
    refine (awake_any _).mono ?_
    rintro e w2 ⟨rfl, hb2⟩
    have h2 := h1.below hb2 h1.p_lt h1.q_lt
    have hbw := hb1.trans (hb2.mono hb1.size)
    have hbs := hbw.size
    go_wp2_with fail
    go_loopw [6, 7] (fun u i wr => ∃ k : Nat, k ≤ ys.length ∧ i = .int .i64 (k : Int) ∧ u = .int .i64 ((min k m : Nat) : Int) ∧ RingS.Has wr (w.heap.size + 1) w.heap.size m (ys.take (min k m)) ∧ Below w.heap.size w wr) (fun _ i _ => ys.length - (intOf i).toNat)
    case atStart => exact ⟨0, Nat.zero_le _, rfl, by simp, by simpa using h2, hbw⟩
    case round =>
      obtain ⟨k, hk, rfl, rfl, hr, hb⟩ := hrel
      by_cases hlt : k < ys.length
      · have hA1 := hA.below hb (Nat.le_refl _)
        obtain ⟨b1, o1, rfl, _, hbl, hc1⟩ := hA1.at1 hlt
        rw [List.getElem?_map, List.getElem?_eq_getElem hlt] at hc1
        simp only [Option.map_some] at hc1
        obtain ⟨hp1, hp2⟩ := take_pushS (m := m) hlt
        have HP1 := Lib.hid hp1
        have HP2 := Lib.hid hp2
        clear hp1 hp2
        generalize ys[k] = y at *
        have i0' : (0 : Int) ≤ (k : Int) := by omega
        have i1 : (k : Int) < (ys.length : Int) := by omega
        by_cases h100 : y.size ≤ 100
        · go_wp2_with fail
          refine (RingS.push_has hr y).mono ?_
          rintro e w4 ⟨rfl, h4, hk4⟩
          rw [HP1.out] at h4
          rw [HP2.out]
          have hb4 := Kept.after hb hk4 HL.out
          by_cases hf : k < m
          · have hd : decide (k < m) = true := decide_eq_true hf
            have e1 : min k m = k := by omega
            have e2 : min (k + 1) m = k + 1 := by omega
            have E1 := Lib.hid e1
            have E2 := Lib.hid e2
            rw [e1]
            rw [e2] at h4
            clear hf e1 e2
            go_wp2_with fail
            go_roundw
            case rel => exact ⟨k + 1, hlt, by go_num, by rw [E2.out]; go_num, by rw [E2.out]; exact h4, hb4⟩
            case measure => simp [intOf]; omega
          · have hd : decide (k < m) = false := decide_eq_false hf
            have e3 : min (k + 1) m = min k m := by omega
            have E3 := Lib.hid e3
            rw [e3] at h4
            clear hf e3
            generalize min k m = mk0 at *
            go_wp2_with fail
            go_roundw
            case rel => exact ⟨k + 1, hlt, by go_num, by rw [E3.out], by rw [E3.out]; exact h4, hb4⟩
            case measure => simp [intOf]; omega
        · go_wp2_with fail
          go_ret
          exact ⟨rfl, hb⟩
      · obtain rfl : k = ys.length := by omega
        have hM : min ys.length m ≤ ys.length := by omega
        have hMl : (ys.take (min ys.length m)).length = min ys.length m := by rw [List.length_take]; omega
        generalize min ys.length m = M at *
        have hr0 : RingS.Has wr (w.heap.size + 1) w.heap.size m ((ys.take M).drop 0) := by simpa using hr
        go_wp2_with fail
        refine (RingS.all_has hr).mono ?_
        rintro e w3 ⟨v, rfl, ho, hb3⟩
        rw [hMl] at ho
        obtain ⟨A1, c1, rfl, _, hsl⟩ := Sl.of_own ho
        have hr3 := hr0.below hb3 hr.p_lt hr.q_lt
        have hbw3 := hb.trans (hb3.mono hb.size)
        have hsl3 := hsl
        have hw3 := hb3.size
        have hpr := hr.p_lt
        have hqr := hr.q_lt
        clear hr hr0 hMl
        go_wp2_with fail
        obtain ⟨wo2, rfl⟩ : ∃ wo2 : World, wo2 = wr := ⟨_, rfl⟩
        go_loopw [9, 10, 11] (fun i ux uo wr => ∃ k : Nat, k ≤ M ∧ i = .int .i64 (k : Int) ∧ RingS.Has wr (w.heap.size + 1) w.heap.size m ((ys.take M).drop k) ∧ Below w.heap.size w wr ∧ Sl wr wo2.heap.size w3.heap.size 1 A1 M ((ys.take M).map mkS) ∧ w3.heap.size ≤ wr.heap.size) (fun i _ _ _ => M - (intOf i).toNat)
        case atStart => exact ⟨0, Nat.zero_le _, rfl, hr3, hbw3, hsl3, Nat.le_refl _⟩
        case round =>
          obtain ⟨k, hk, rfl, hr, hb, hsl, hws⟩ := hrel
          by_cases hlt : k < M
          · have hky : k < ys.length := by omega
            have hA1 := hA.below hb (Nat.le_refl _)
            obtain ⟨b1, o1, rfl, _, hbl, hc1⟩ := hA1.at1 hky
            rw [List.getElem?_map, List.getElem?_eq_getElem hky] at hc1
            simp only [Option.map_some] at hc1
            obtain ⟨b2, o2, rfl, hb2l, hb2h, hc2⟩ := hsl.at1 hlt
            rw [List.getElem?_map, List.getElem?_take_of_lt hlt, List.getElem?_eq_getElem hky] at hc2
            simp only [Option.map_some] at hc2
            rw [drop_popS hlt hM] at hr
            generalize ys[k] = y at *
            have i0' : (0 : Int) ≤ (k : Int) := by omega
            have i1 : (k : Int) < (ys.length : Int) := by omega
            have i2 : (k : Int) < (M : Int) := by omega
            have hbs2 := hb.size
            have hne1 : b1 ≠ w.heap.size + 1 := by omega
            have hne2 : b1 ≠ w.heap.size := by omega
            have hne3 : b2 ≠ w.heap.size + 1 := by omega
            have hne4 : b2 ≠ w.heap.size := by omega
            go_wp2_with fail
            refine (RingS.pop_has hr).mono ?_
            rintro e w4 ⟨rfl, h4, hk4⟩
            have hc4 := (hk4.cell (p := ⟨b1, o1 + k, none⟩) (by simp; omega) (by simp [hne1, hne2])).trans hc1
            have hc5 := (hk4.cell (p := ⟨b2, o2 + k, none⟩) (by simp; omega) (by simp [hne3, hne4])).trans hc2
            have hb4 := Kept.after hb hk4 HL.out
            have hsl4 := hsl.kept hk4 hws (fun x hx => by simp at hx; omega)
            have hws4 := Nat.le_trans hws hk4.size
            simp only [List.tail_cons] at h4
            go_wp2_with fail
            go_roundw
            case rel => exact ⟨k + 1, hlt, by go_num, h4, hb4, hsl4, hws4⟩
            case measure => simp [intOf]; omega
          · obtain rfl : k = M := by omega
            have he : (ys.take k).drop k = [] := List.drop_of_length_le (by rw [List.length_take]; omega)
            rw [he] at hr
            clear he
            go_wp2_with fail
            refine (RingS.pop_has hr).mono ?_
            rintro e w4 ⟨rfl, h4, hk4⟩
            have hb4 := Kept.after hb hk4 HL.out
            go_wp2_with fail
            go_ret
            exact ⟨rfl, hb4⟩
  · have hd : decide (60 < (ys.length : Int)) = true := by simp; omega
    go_enter Try.func7, Try.ntmps7
    go_wp2_with fail
    refine (RingS.new_has room _).mono ?_
    rintro e w1 ⟨rfl, h1, hb1⟩
    go_wp2_with fail
    refine (awake_any _).mono ?_
    rintro e w2 ⟨rfl, hb2⟩
    go_wp2_with fail
    refine (awake_any _).mono ?_
    rintro e w3 ⟨rfl, hb3⟩
    have hbw := hb1.trans (hb2.mono hb1.size)
    go_wp2_with fail
    go_ret
    exact ⟨rfl, hbw.trans (hb3.mono hbw.size)⟩
end Go.Proofs.Ytmbnnpmmbjdodaa
