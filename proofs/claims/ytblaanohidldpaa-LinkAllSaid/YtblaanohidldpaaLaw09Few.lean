/- Layer 9: are the acts few and short? Conditions: the slice of acts lies in memory that came in. -/
import Derived.Test.YtblaanohidldpaaActs09
import Derived.Test.YtblaanohidldpaaLinkAwake
namespace Go.Proofs.Ytblaanohidldpaa.Link
set_option linter.unusedSimpArgs false
set_option linter.unusedVariables false
open Go.RowKit
def Short (l : List Act9) : Prop := ∀ a ∈ l, a.S.size ≤ 70 ∧ a.F.body.size ≤ 70
def FewSaid (l : List Act9) (e : Ending) : Prop := ∃ b : Bool, e = .returned (.bool b) ∧ (b = true → l.length ≤ 80 ∧ Short l)
set_option maxHeartbeats 2000000 in
theorem few_any {w : World} {lo hi : Nat} {A : Option Addr} {c : Nat} {l : List Act9} (hA : Sl w lo hi 9 A l.length (l.flatMap Act9.cells)) (hy : l.length ≤ maxLen) :
    Calls Try.prog 15 #[.slice A l.length c] w fun e w' => FewSaid l e ∧ w = w' := by
  unfold maxLen at hy
  go_enter Try.func15, Try.ntmps15
  go_wp2_with fail
  go_loop [3] (fun i => ∃ k : Nat, k ≤ l.length ∧ k ≤ 81 ∧ i = .int .i64 (k : Int) ∧ Short (l.take k)) (fun i => 81 - (intOf i).toNat)
  case atStart => exact ⟨0, Nat.zero_le _, by omega, rfl, by simp [Short]⟩
  case round =>
    obtain ⟨k, hk, hk81, rfl, hs⟩ := hrel
    have HS := Lib.hid hs
    clear hs
    by_cases hlt : k < l.length
    · have d1 : decide (k < l.length) = true := by simpa using hlt
      by_cases h81 : k < 81
      · have d2 : decide ((k : Int) < 81) = true := by simp; omega
        obtain ⟨g, o, rfl, _, _, hat⟩ := acts_at hA hlt
        have c3 := hat.c3
        have c8 := hat.c8
        have i0 : (0 : Int) ≤ (k : Int) := by omega
        have i1 : (k : Int) < (l.length : Int) := by omega
        have hstep : l[k].S.size ≤ 70 → l[k].F.body.size ≤ 70 → Short (l.take (k + 1)) := by
          intro p1 p2 a ha
          rw [List.take_succ_eq_append_getElem hlt] at ha
          rcases List.mem_append.1 ha with ha | ha
          · exact HS.out a ha
          · simp at ha; subst ha; exact ⟨p1, p2⟩
        have HST := Lib.hid hstep
        clear hat hstep
        generalize l[k].S = s at *
        generalize l[k].F.body = b at *
        by_cases p1 : s.size ≤ 70
        · have d3 : decide (70 < (s.size : Int)) = false := by simp; omega
          by_cases p2 : b.size ≤ 70
          · have d4 : decide (70 < (b.size : Int)) = false := by simp; omega
            have hn := HST.out p1 p2
            have HN := Lib.hid hn
            clear hn
            go_wp2_with fail
            go_round
            case rel => exact ⟨k + 1, by omega, by omega, by go_num, HN.out⟩
            case measure => simp [intOf]; omega
          · have d4 : decide (70 < (b.size : Int)) = true := by simp; omega
            go_wp2_with fail
            go_ret
            exact ⟨⟨false, rfl, by simp⟩, rfl⟩
        · have d3 : decide (70 < (s.size : Int)) = true := by simp; omega
          go_wp2_with fail
          go_ret
          exact ⟨⟨false, rfl, by simp⟩, rfl⟩
      · have d2 : decide ((k : Int) < 81) = false := by simp; omega
        have d3 : decide ((l.length : Int) ≤ 80) = false := by simp; omega
        go_wp2_with fail
        go_ret
        exact ⟨⟨false, rfl, by simp⟩, rfl⟩
    · obtain rfl : k = l.length := by omega
      have hs := HS.out
      rw [List.take_length] at hs
      have HS2 := Lib.hid hs
      clear hs
      have d1 : decide (l.length < l.length) = false := by simp
      by_cases h80 : l.length ≤ 80
      · have d3 : decide ((l.length : Int) ≤ 80) = true := by simp; omega
        go_wp2_with fail
        go_ret
        exact ⟨⟨true, rfl, fun _ => ⟨h80, HS2.out⟩⟩, rfl⟩
      · have d3 : decide ((l.length : Int) ≤ 80) = false := by simp; omega
        go_wp2_with fail
        go_ret
        exact ⟨⟨false, rfl, by simp⟩, rfl⟩
end Go.Proofs.Ytblaanohidldpaa.Link
