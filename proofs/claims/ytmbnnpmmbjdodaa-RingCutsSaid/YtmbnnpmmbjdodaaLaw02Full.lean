/- Layer 2: the walk of RingFull. Conditions: the slice lies in memory that came in. -/
import Derived.Test.YtmbnnpmmbjdodaaRefRing
import Derived.Test.YtmbnnpmmbjdodaaLaw02Awake
import Derived.Deep.DeepCutAuto
namespace Go.Proofs.Ytmbnnpmmbjdodaa
set_option linter.unusedSimpArgs false
set_option linter.unusedVariables false
open Go.RowKit

theorem pushed_len (m : Nat) (xs : List Int) (x : Int) (h : xs.length ≤ m) : (RingI.pushed m xs x).length ≤ m := by
  unfold RingI.pushed
  by_cases hf : xs.length < m
  · rw [if_pos hf]; simp; omega
  · rw [if_neg hf]; exact h
set_option maxHeartbeats 4000000 in
theorem full_walk (room : Int) (A : Option Addr) (c : Nat) (ys : List Int) (w : World) (hA : Sl w 0 w.heap.size 1 A ys.length (ys.map mkI)) (hy : ys.length ≤ maxLen) :
    Calls Try.prog 5 #[.int .i64 room, .slice A ys.length c] w fun e w' => e = .returned (.bool true) ∧ Below w.heap.size w w' := by
  unfold maxLen at hy
  have hL : ∀ x, x ∈ [w.heap.size + 1, w.heap.size] → w.heap.size ≤ x := by simp
  have HL := Lib.hid hL
  clear hL
  have hm0 : (RingI.clamp room : Int) = min (max room 0) 1000 := by unfold RingI.clamp; omega
  have HM := Lib.hid hm0
  have hm1 : RingI.clamp room ≤ 1000 := by omega
  clear hm0
  by_cases h60 : ys.length ≤ 60
  · go_enter Try.func5, Try.ntmps5
    go_wp2_with fail
    refine (RingI.new_has room _).mono ?_
    rintro e w1 ⟨rfl, h1, hb1⟩
    generalize RingI.clamp room = m at *
    go_wp2_with fail
    refine (awake_any _).mono ?_
    rintro e w2 ⟨rfl, hb2⟩
    have h2 := h1.below hb2 h1.p_lt h1.q_lt
    have hbw := hb1.trans (hb2.mono hb1.size)
    have hbs := hbw.size
    go_upto_region 5 with fail
    go_cut [6, 7] (fun s6 s7 wx => s6 = .int .i64 (m : Int) ∧ s7 = .int .i64 0 ∧ wx = w2)
    case first =>
      go_wp2_with fail
      all_goals (go_meet; exact ⟨by rw [HM.out]; congr 1; omega, rfl, rfl⟩)
    case rest =>
      obtain ⟨rfl, rfl, rfl⟩ := hcut
      go_wp2_with fail
      go_loopw [7] (fun i wr => ∃ k xs, k ≤ ys.length ∧ i = .int .i64 (k : Int) ∧ RingI.Has wr (w.heap.size + 1) w.heap.size m xs ∧ Below w.heap.size w wr) (fun i _ => ys.length - (intOf i).toNat)
      case atStart => exact ⟨0, [], Nat.zero_le _, rfl, h2, hbw⟩
      case round =>
        obtain ⟨k, xs, hk, rfl, hr, hb⟩ := hrel
        have hcap := hr.cap
        by_cases hlt : k < ys.length
        · have hA1 := hA.below hb (Nat.le_refl _)
          obtain ⟨b1, o1, rfl, _, hbl, hc1⟩ := hA1.at1 hlt
          rw [List.getElem?_map, List.getElem?_eq_getElem hlt] at hc1
          simp only [Option.map_some] at hc1
          generalize ys[k] = y at *
          have i0 : (0 : Int) ≤ (k : Int) := by omega
          have i1 : (k : Int) < (ys.length : Int) := by omega
          have hbls : b1 < wr.heap.size := Nat.lt_of_lt_of_le hbl hb.size
          go_wp2_with fail
          refine (RingI.all_has hr).mono ?_
          rintro e w3 ⟨v, rfl, ho, hb3⟩
          obtain ⟨A1, c1, rfl, _, hsl⟩ := Sl.of_own ho
          have hr3 := hr.below hb3 hr.p_lt hr.q_lt
          have hbw3 := hb.trans (hb3.mono hb.size)
          have hc3 := (hb3.cell (p := ⟨b1, o1 + k, none⟩) hbls).trans hc1
          go_wp2_with fail
          refine (RingI.push_has hr3 y).mono ?_
          rintro e w4 ⟨rfl, h4, hk4⟩
          have hbw4 := Kept.after hbw3 hk4 HL.out
          have hsl4 := hsl.kept hk4 (Nat.le_refl _) (fun x hx => by have h1 := hr.p_lt; have h2 := hr.q_lt; simp at hx; omega)
          have hpl := pushed_len m xs y hcap
          have hcap4 := h4.cap
          by_cases hf : xs.length < m
          · have hd1 : decide (xs.length < m) = true := decide_eq_true hf
            have HD := Lib.hid hf
            clear hf
            generalize RingI.pushed m xs y = zs at *
            have hne : ((zs.length : Int) + ((m : Int) - (zs.length : Int)) != (m : Int)) = false := by rw [bne_eq_false_iff_eq]; omega
            go_wp2_with fail
            refine (RingI.len_has h4).mono ?_
            rintro e w5 ⟨rfl, rfl⟩
            go_wp2_with fail
            refine (RingI.len_has h4).mono ?_
            rintro e w5 ⟨rfl, rfl⟩
            go_wp2_with fail
            refine (RingI.room_has h4).mono ?_
            rintro e w5 ⟨rfl, n5, rfl⟩
            go_wp2_with fail
            go_roundw
            case rel => exact ⟨k + 1, zs, hlt, by go_num, h4.drewN n5, below_drewN hbw4 n5⟩
            case measure => simp [intOf]; omega
          · have hd1 : decide (xs.length < m) = false := decide_eq_false hf
            have hpe : RingI.pushed m xs y = xs := by unfold RingI.pushed; rw [if_neg hf]
            rw [hpe] at h4
            have hfe : m ≤ xs.length := by omega
            have hne : ((xs.length : Int) + ((m : Int) - (xs.length : Int)) != (m : Int)) = false := by rw [bne_eq_false_iff_eq]; omega
            clear hf hpe hpl hcap4
            go_wp2_with fail
            refine (RingI.all_has h4).mono ?_
            rintro e w5 ⟨v5, rfl, ho5, hb5⟩
            obtain ⟨A5, c5, rfl, _, hsl5⟩ := Sl.of_own ho5
            have hr5 := h4.below hb5 h4.p_lt h4.q_lt
            have hbw5 := hbw4.trans (hb5.mono hbw4.size)
            have hs45 := hsl4.below hb5 hk4.size
            have hxl : xs.length ≤ maxLen := by unfold maxLen; omega
            go_wp2_with fail
            refine (same_any hs45 hsl5 hxl hxl).mono ?_
            rintro e w6 ⟨rfl, n6, rfl⟩
            go_wp2_with fail
            refine (RingI.len_has (hr5.drewN n6)).mono ?_
            rintro e w7 ⟨rfl, rfl⟩
            go_wp2_with fail
            refine (RingI.len_has (hr5.drewN n6)).mono ?_
            rintro e w7 ⟨rfl, rfl⟩
            go_wp2_with fail
            refine (RingI.room_has (hr5.drewN n6)).mono ?_
            rintro e w7 ⟨rfl, n7, rfl⟩
            go_wp2_with fail
            go_roundw
            case rel => exact ⟨k + 1, xs, hlt, by go_num, hr5.drewN (n6 + n7), below_drewN hbw5 (n6 + n7)⟩
            case measure => simp [intOf]; omega
        · obtain rfl : k = ys.length := by omega
          go_wp2_with fail
          go_ret
          exact ⟨rfl, hb⟩
  · have hd : decide (60 < (ys.length : Int)) = true := by simp; omega
    go_enter Try.func5, Try.ntmps5
    go_wp2_with fail
    refine (RingI.new_has room _).mono ?_
    rintro e w1 ⟨rfl, h1, hb1⟩
    go_wp2_with fail
    refine (awake_any _).mono ?_
    rintro e w2 ⟨rfl, hb2⟩
    go_wp2_with fail
    refine (awake_any _).mono ?_
    rintro e w3 ⟨rfl, hb3⟩
    have hbw := hb1.trans (hb2.mono hb1.size)
    go_wp2_with fail
    go_ret
    exact ⟨rfl, hbw.trans (hb3.mono hbw.size)⟩
end Go.Proofs.Ytmbnnpmmbjdodaa
