/- Layer 10: the walk of PipeSides. Conditions: the table of layer 5 and the variable of package errors are laid. -/
import Derived.Test.YtihhflajkohibaaDoorPipeAwake
namespace Go.Proofs.YtihhflajkohibaaDoor.Pipe
set_option linter.unusedSimpArgs false
set_option linter.unusedVariables false
set_option maxRecDepth 100000
open Go.RowKit
open Go.Proofs.YtihhflajkohibaaDoor
open Go.Proofs.YtihhflajkohibaaDoor.Link (LE Fr EndIs)
open Go.Proofs.YtihhflajkohibaaDoor.Net (NS NetIs)
set_option maxRecDepth 100000 in
set_option maxHeartbeats 4000000 in
theorem sides_walk (epoch first window queue wait room side k : Int) (b : ByteArray) (hu : Link.u first = first) (w : World) (ht : TabAt w) (hg : Frame.ErrAt w) :
    Calls Tryd.prog 6 #[.int .i64 epoch, .int .u64 first, .int .i64 window, .int .i64 queue, .int .i64 wait, .int .i64 room, .int .i64 side, .int .i64 k, .string b] w fun e w' => e = .returned (.bool true) ∧ Below w.heap.size w w' := by
  have HU := Lib.hid hu
  have HV := Lib.hid (Env.of ht hg)
  clear hu ht hg
  go_enter Tryd.func6, Tryd.ntmps6
  go_wp2_with fail
  refine (stand_new epoch first window queue wait room HU.out w _ (Below.refl _ _) HV.out).mono ?_
  rintro e w1 ⟨p, rfl, h1⟩
  have H0 := Lib.hid h1
  clear h1
  go_wp2_with fail
  refine (awake_any _ H0.out.env).mono ?_
  rintro e w2 ⟨rfl, hb⟩
  have H1 := Lib.hid (H0.out.after hb)
  clear hb
  by_cases hc : isSide side = false ∧ b.size ≤ 70
  · obtain ⟨hs, hb⟩ := hc
    have hd : decide (70 < (b.size : Int)) = false := by simp; omega
    have hn : ¬ (side = 0 ∨ side = 1) := fun h => by rw [isSide_iff.2 h] at hs; cases hs
    have d0 : (side == 0) = false := beq_eq_false_iff_ne.2 (fun h => hn (.inl h))
    have d1 : (side == 1) = false := beq_eq_false_iff_ne.2 (fun h => hn (.inr h))
    have HS := Lib.hid hs
    clear hs hb hn
    go_wp2_with fail
    refine (H1.out.send false ⟨#[97]⟩).mono ?_
    generalize ((new epoch first window queue wait room).e false).sendE ⟨#[97]⟩ = E
    rintro e w3 ⟨rfl, h3⟩
    have H3 := Lib.hid h3
    clear h3
    go_wp2_with fail
    refine (H3.out.go false).mono ?_
    rintro e w4 ⟨rfl, h4⟩
    obtain ⟨s, hs⟩ : ∃ s, ((new epoch first window queue wait room).send false ⟨#[97]⟩).go false = s := ⟨_, rfl⟩
    rw [hs] at h4
    have HSG := Lib.hid (show s.g false = [] from by rw [← hs]; rfl)
    have H4 := Lib.hid h4
    clear h4 hs
    generalize (((new epoch first window queue wait room).send false ⟨#[97]⟩).gone false).2 = N
    go_wp2_with fail
    refine (H4.out.look true 0).mono ?_
    obtain ⟨lk, hlk⟩ : ∃ lk, s.look true 0 = lk := ⟨_, rfl⟩
    obtain ⟨hh, hhh⟩ : ∃ hh, s.has true 0 = hh := ⟨_, rfl⟩
    rw [hlk, hhh]
    have HLK := Lib.hid (And.intro hlk hhh)
    clear hlk hhh
    rintro e w5 ⟨rfl, h5⟩
    have H5 := Lib.hid h5
    clear h5
    go_wp2_with fail
    refine (send_no _ side HS.out b _).mono ?_
    rintro e w6 ⟨rfl, rfl⟩
    go_wp2_with fail
    refine (go_no _ side HS.out _).mono ?_
    rintro e w6 ⟨rfl, rfl⟩
    go_wp2_with fail
    refine (tick_no _ side HS.out _).mono ?_
    rintro e w6 ⟨rfl, rfl⟩
    go_wp2_with fail
    refine (come_no _ side HS.out k _).mono ?_
    rintro e w6 ⟨rfl, rfl⟩
    go_wp2_with fail
    refine (look_no _ side HS.out k _).mono ?_
    rintro e w6 ⟨rfl, rfl⟩
    go_wp2_with fail
    refine (lose_no _ side HS.out k _).mono ?_
    rintro e w6 ⟨rfl, rfl⟩
    go_wp2_with fail
    refine (double_no _ side HS.out k _).mono ?_
    rintro e w6 ⟨rfl, rfl⟩
    go_wp2_with fail
    refine (flip_no _ side HS.out k k _).mono ?_
    rintro e w6 ⟨rfl, rfl⟩
    go_wp2_with fail
    refine (H5.out.look true 0).mono ?_
    rw [HLK.out.1, HLK.out.2]
    rintro e w6 ⟨rfl, h6⟩
    have H6 := Lib.hid h6
    clear h6
    go_wp2_with fail
    refine (got_no _ side HS.out _).mono ?_
    rintro e w7 ⟨rfl, rfl⟩
    go_wp2_with fail
    refine (waiting_no _ side HS.out _).mono ?_
    rintro e w7 ⟨rfl, rfl⟩
    go_wp2_with fail
    refine (H6.out.got false (by rw [HSG.out]; simp)).mono ?_
    rw [HSG.out]
    rintro e w10 ⟨A, c, G, rfl, _, h10⟩
    have H10 := Lib.hid h10
    clear h10
    go_wp2_with fail
    go_ret
    exact ⟨rfl, H10.out.below⟩
  · have hd : isSide side = true ∨ decide (70 < (b.size : Int)) = true := by
      cases hs : isSide side
      · right; by_cases hb : b.size ≤ 70
        · exact absurd ⟨hs, hb⟩ hc
        · simp; omega
      · exact .inl rfl
    have hcs : side = 0 ∨ side = 1 ∨ ((side == 0) = false ∧ (side == 1) = false ∧ decide (70 < (b.size : Int)) = true) := by
      by_cases h0 : side = 0
      · exact .inl h0
      · by_cases h1 : side = 1
        · exact .inr (.inl h1)
        · refine .inr (.inr ⟨beq_eq_false_iff_ne.2 h0, beq_eq_false_iff_ne.2 h1, hd.resolve_left fun h => ?_⟩)
          rcases isSide_iff.1 h with h | h
          · exact h0 h
          · exact h1 h
    clear hc hd
    rcases hcs with rfl | rfl | ⟨d0, d1, d2⟩
    all_goals
      go_wp2_with fail
      refine (awake_any _ H1.out.env).mono ?_
      rintro e w3 ⟨rfl, hb⟩
      have H3 := Lib.hid (H1.out.after hb)
      clear hb
      go_wp2_with fail
      go_ret
      exact ⟨rfl, H3.out.below⟩
end Go.Proofs.YtihhflajkohibaaDoor.Pipe
