/- Layer 9, the reference: the same frames, the same texts. Conditions: both slices hold the same list. -/
import Derived.Test.YtblaanohidldpaaLaw09Few
namespace Go.Proofs.Ytblaanohidldpaa.Link
set_option linter.unusedSimpArgs false
set_option linter.unusedVariables false
open Go.RowKit
set_option maxHeartbeats 2000000 in
theorem same_is {w : World} {Fa Fb : List Nat} {A B : Option Addr} {c d : Nat} {l : List Fr} (ha : Vec w Fa 5 A l.length c (l.flatMap Fr.cells)) (hb : Vec w Fb 5 B l.length d (l.flatMap Fr.cells)) (hl : l.length ≤ 1000) :
    Calls Try.prog 19 #[.slice A l.length c, .slice B l.length d] w fun e w' => e = .returned (.bool true) ∧ ∃ n, w' = w.drewN n := by
  have hfa := vec_frame ha
  have hfb := vec_frame hb
  have HFA := Lib.hid hfa
  have HFB := Lib.hid hfb
  have HNN := Lib.hid (show ∀ j, j < l.length → ∃ f, l[j]? = some f from fun j hj => ⟨_, List.getElem?_eq_getElem hj⟩)
  clear ha hb hfa hfb
  go_enter Try.func19, Try.ntmps19
  go_wp2_with fail
  go_loopw [5] (fun i wr => ∃ k n : Nat, k ≤ l.length ∧ i = .int .i64 (k : Int) ∧ wr = w.drewN n) (fun i _ => l.length - (intOf i).toNat)
  case atStart => exact ⟨0, 0, Nat.zero_le _, rfl, rfl⟩
  case round =>
    obtain ⟨k, n, hk, rfl, rfl⟩ := hrel
    by_cases hlt : k < l.length
    · obtain ⟨f, hf⟩ := HNN.out k hlt
      rcases HFA.out with e0 | ⟨g1, o1, rfl, _, _, hfr1⟩
      · rw [e0] at hf; cases hf
      rcases HFB.out with e0 | ⟨g2, o2, rfl, _, _, hfr2⟩
      · rw [e0] at hf; cases hf
      obtain ⟨a0, a1, a2, a3, a4⟩ := hfr1 k f hf
      obtain ⟨b0, b1, b2, b3, b4⟩ := hfr2 k f hf
      have i0 : (0 : Int) ≤ (k : Int) := by omega
      have i1 : (k : Int) < (l.length : Int) := by omega
      clear hf hfr1 hfr2
      go_wp2_with fail
      go_quiet (fail)
      go_wp2
      go_roundw
      case rel => exact ⟨k + 1, _, hlt, by go_num, rfl⟩
      case measure => simp [intOf]; omega
    · obtain rfl : k = l.length := by omega
      go_wp2
      go_ret
      exact ⟨rfl, _, rfl⟩
set_option maxHeartbeats 2000000 in
theorem texts_is {w : World} {Fa Fb : List Nat} {A B : Option Addr} {c d : Nat} {l : List ByteArray} (ha : Vec w Fa 1 A l.length c (l.map .string)) (hb : Vec w Fb 1 B l.length d (l.map .string)) (hl : l.length ≤ 100000) :
    Calls Try.prog 26 #[.slice A l.length c, .slice B l.length d] w fun e w' => e = .returned (.bool true) ∧ ∃ n, w' = w.drewN n := by
  have HA := Lib.hid ha
  have HB := Lib.hid hb
  have HNN := Lib.hid (show ∀ j, j < l.length → ∃ f, (l.map Value.string)[j]? = some (.string f) from fun j hj => ⟨l[j], by rw [List.getElem?_map, List.getElem?_eq_getElem hj]; rfl⟩)
  clear ha hb
  go_enter Try.func26, Try.ntmps26
  go_wp2_with fail
  go_loopw [5] (fun i wr => ∃ k n : Nat, k ≤ l.length ∧ i = .int .i64 (k : Int) ∧ wr = w.drewN n) (fun i _ => l.length - (intOf i).toNat)
  case atStart => exact ⟨0, 0, Nat.zero_le _, rfl, rfl⟩
  case round =>
    obtain ⟨k, n, hk, rfl, rfl⟩ := hrel
    by_cases hlt : k < l.length
    · obtain ⟨f, hf⟩ := HNN.out k hlt
      obtain ⟨g1, o1, rfl, _, _, c1⟩ := HA.out.at hf
      obtain ⟨g2, o2, rfl, _, _, c2⟩ := HB.out.at hf
      have i0 : (0 : Int) ≤ (k : Int) := by omega
      have i1 : (k : Int) < (l.length : Int) := by omega
      clear hf
      go_wp2_with fail
      go_quiet (fail)
      go_wp2
      go_roundw
      case rel => exact ⟨k + 1, _, hlt, by go_num, rfl⟩
      case measure => simp [intOf]; omega
    · obtain rfl : k = l.length := by omega
      go_wp2
      go_ret
      exact ⟨rfl, _, rfl⟩
end Go.Proofs.Ytblaanohidldpaa.Link
