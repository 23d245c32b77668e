/- Layer 8: the walk of NetOrder. Conditions: the slice of texts lies in memory that came in. -/
import Derived.Test.YtndiclkfincbgaaNetAwake
import Derived.Test.YtndiclkfincbgaaSlices
namespace Go.Proofs.Ytndiclkfincbgaa.Net
set_option linter.unusedSimpArgs false
set_option linter.unusedVariables false
open Go.RowKit
/-- only from node 1 to node 0 is anything on its way -/
structure OrdSt (s : NS) (xs : List ByteArray) : Prop where
  row : s.f 1 0 = xs
  m : s.m = 100
  n : s.n = 2
  rest : ∀ a b, ¬ (a = 1 ∧ b = 0) → s.f a b = []
theorem OrdSt.good {s : NS} {xs : List ByteArray} (h : OrdSt s xs) : s.good 1 0 = true := by unfold NS.good; rw [h.n]; rfl
theorem OrdSt.set {s : NS} {xs : List ByteArray} (h : OrdSt s xs) (ys : List ByteArray) : OrdSt (s.set 1 0 ys) ys :=
  ⟨NS.set_same _ _ _ _, h.m, h.n, fun a b hab => by rw [NS.set_other _ _ _ _ _ _ hab]; exact h.rest a b hab⟩
theorem OrdSt.send {s : NS} {xs : List ByteArray} (h : OrdSt s xs) (hl : xs.length < 100) (t : ByteArray) : OrdSt (s.send 1 0 t) (xs ++ [t]) := by
  have hs : s.sendOk 1 0 = true := by unfold NS.sendOk; rw [h.good, h.row, h.m]; simpa using hl
  unfold NS.send
  rw [if_pos hs, h.row]
  exact h.set _
theorem OrdSt.deliver {s : NS} {xs : List ByteArray} (h : OrdSt s xs) (x : ByteArray) (r : List ByteArray) (hx : xs = x :: r) : s.isAt 1 0 0 = true ∧ s.look 1 0 0 = x ∧ OrdSt (s.deliver 1 0 0) r := by
  have ha : s.isAt 1 0 0 = true := by unfold NS.isAt; rw [h.row, hx]; simp
  refine ⟨ha, ?_, ?_⟩
  · unfold NS.look; rw [if_pos ha, h.row, hx]; rfl
  · unfold NS.deliver; rw [if_pos ha, h.row, hx]; exact h.set _
theorem OrdSt.empty {s : NS} (h : OrdSt s []) : s.isAt 1 0 0 = false ∧ s.deliver 1 0 0 = s ∧ s.quiet := by
  have ha : s.isAt 1 0 0 = false := by unfold NS.isAt; rw [h.row]; simp
  refine ⟨ha, by unfold NS.deliver; rw [ha]; rfl, fun a b => ?_⟩
  by_cases hab : a = 1 ∧ b = 0
  · rw [hab.1, hab.2]; exact h.row
  · exact h.rest a b hab
structure OrdRel (w : World) (p : Nat) (xs : List ByteArray) (wr : World) : Prop where
  all : ∃ s F, Stand w p s F wr ∧ OrdSt s xs
set_option maxRecDepth 100000 in
set_option maxHeartbeats 8000000 in
theorem order_walk (A : Option Addr) (c : Nat) (l : List ByteArray) (w : World) (hA : Sl w 0 w.heap.size 1 A l.length (l.map .string)) (hy : l.length ≤ maxLen) (hbs : ∀ b ∈ l, b.size ≤ maxLen) :
    Calls Try.prog 7 #[.slice A l.length c] w fun e w' => e = .returned (.bool true) ∧ Below w.heap.size w w' := by
  unfold maxLen at hy
  go_enter Try.func7, Try.ntmps7
  go_wp2_with fail
  refine (new_any 2 100 _).mono ?_
  rintro e w1 ⟨p, F, rfl, hn, hF, hb⟩
  have HS := Lib.hid (show Stand w p (new 2 100) F w1 from ⟨hn, hF, hb⟩)
  clear hn hF hb
  go_wp2_with fail
  refine (awake_any _).mono ?_
  rintro e w2 ⟨rfl, hb2⟩
  have HS := Lib.hid (HS.out.after (HS.out.net.after hb2) hb2)
  clear hb2
  by_cases h60 : l.length ≤ 60
  · have hd : decide (60 < (l.length : Int)) = false := by simp; omega
    have hrel : OrdRel w p (l.take 0) w2 := ⟨_, F, HS.out, ⟨by simp [new], rfl, rfl, fun _ _ _ => rfl⟩⟩
    have HREL := Lib.hid hrel
    clear hrel
    go_wp2_with fail
    go_loopw [4] (fun i wr => ∃ k : Nat, k ≤ l.length ∧ i = .int .i64 (k : Int) ∧ OrdRel w p (l.take k) wr) (fun i _ => l.length - (intOf i).toNat)
    case atStart => exact ⟨0, Nat.zero_le _, rfl, HREL.out⟩
    case round =>
      obtain ⟨k, hk, rfl, hr⟩ := hrel
      have HR := Lib.hid hr
      obtain ⟨s, F, hst, ho⟩ := hr.all
      have HST := Lib.hid hst
      have HO := Lib.hid ho
      clear hr hst ho
      by_cases hlt : k < l.length
      · have hA1 := hA.below HST.out.below (Nat.le_refl _)
        obtain ⟨b1, o1, rfl, _, hbl, hc1⟩ := hA1.at1 hlt
        rw [List.getElem?_map, List.getElem?_eq_getElem hlt] at hc1
        have hsz := hbs l[k] (List.getElem_mem hlt)
        have htk : l.take k ++ [l[k]] = l.take (k + 1) := (List.take_succ_eq_append_getElem hlt).symm
        have HTK := Lib.hid htk
        generalize l[k] = t at *
        simp only [Option.map_some] at hc1
        unfold maxLen at hsz
        have i0' : (0 : Int) ≤ (k : Int) := by omega
        have i1 : (k : Int) < (l.length : Int) := by omega
        clear htk
        by_cases h40 : 40 < t.size
        · have hd2 : decide (40 < (t.size : Int)) = true := by simp; omega
          go_wp2_with fail
          go_ret
          exact ⟨rfl, HST.out.below⟩
        · have hd2 : decide (40 < (t.size : Int)) = false := by simp; omega
          go_wp2_with fail
          refine (send_any HST.out.net 1 0 t).mono ?_
          rintro e w3 ⟨rfl, F3, hn3, ht3⟩
          have HR3 := Lib.hid (show OrdRel w p (l.take (k + 1)) w3 from ⟨_, F3, HST.out.step hn3 ht3, by rw [← HTK.out]; exact HO.out.send (by rw [List.length_take]; omega) t⟩)
          clear hn3 ht3
          go_wp2_with fail
          go_roundw
          case rel => exact ⟨k + 1, hlt, by go_num, HR3.out⟩
          case measure => simp [intOf]; omega
      · obtain rfl : k = l.length := by omega
        have hd0 : OrdRel w p (l.drop 0) wr := by have := HR.out; rw [List.take_length] at this; simpa using this
        have HD0 := Lib.hid hd0
        clear hd0
        go_wp2_with fail
        go_loopw [5] (fun i wz => ∃ k : Nat, k ≤ l.length ∧ i = .int .i64 (k : Int) ∧ OrdRel w p (l.drop k) wz) (fun i _ => l.length - (intOf i).toNat)
        case atStart => exact ⟨0, Nat.zero_le _, rfl, HD0.out⟩
        case round =>
          obtain ⟨k, hk, rfl, hr⟩ := hrel
          obtain ⟨s, F, hst, ho⟩ := hr.all
          have HST := Lib.hid hst
          have HO := Lib.hid ho
          clear hr hst ho
          by_cases hlt : k < l.length
          · have hA1 := hA.below HST.out.below (Nat.le_refl _)
            obtain ⟨b1, o1, rfl, _, hbl, hc1⟩ := hA1.at1 hlt
            rw [List.getElem?_map, List.getElem?_eq_getElem hlt] at hc1
            have htk : l.drop k = l[k] :: l.drop (k + 1) := List.drop_eq_getElem_cons hlt
            have HTK := Lib.hid htk
            generalize l[k] = t at *
            simp only [Option.map_some] at hc1
            obtain ⟨q1, q2, q3⟩ := HO.out.deliver t (l.drop (k + 1)) HTK.out
            have Q1 := Lib.hid q1
            have Q2 := Lib.hid q2
            have Q3 := Lib.hid q3
            have i0' : (0 : Int) ≤ (k : Int) := by omega
            have i1 : (k : Int) < (l.length : Int) := by omega
            clear htk q1 q2 q3
            go_wp2_with fail
            refine (deliver_any HST.out.net 1 0 0).mono ?_
            rintro e w3 ⟨rfl, F3, hn3, ht3⟩
            rw [Q1.out, Q2.out]
            have hs3 := HST.out.step hn3 ht3
            have hA3 := hA.below hs3.below (Nat.le_refl _)
            obtain ⟨b3, o3, e3, _, _, hc3⟩ := hA3.at1 hlt
            injection e3 with e3
            injection e3 with e31 e32
            subst e31; subst e32
            have hc3' := (ht3.kept.cell (p := ⟨b1, o1 + k, none⟩) (by have := HST.out.below.size; show b1 < _; omega) (fun hm => by have := HST.out.new _ hm; simp at this; omega)).trans hc1
            have HR3 := Lib.hid (show OrdRel w p (l.drop (k + 1)) w3 from ⟨_, F3, hs3, Q3.out⟩)
            clear hn3 ht3 hs3 hA3 hc3 hc1
            go_wp2_with fail
            go_roundw
            case rel => exact ⟨k + 1, hlt, by go_num, HR3.out⟩
            case measure => simp [intOf]; omega
          · obtain rfl : k = l.length := by omega
            have ho := HO.out
            rw [List.drop_length] at ho
            obtain ⟨q1, q2, q3⟩ := ho.empty
            have Q1 := Lib.hid q1
            have Q3 := Lib.hid q3
            have hlk : s.look 1 0 0 = ⟨#[]⟩ := by unfold NS.look; rw [q1]; rfl
            have Q2 := Lib.hid q2
            have HLK := Lib.hid hlk
            clear q1 q2 q3 hlk ho
            go_wp2_with fail
            refine (deliver_any HST.out.net 1 0 0).mono ?_
            rintro e w3 ⟨rfl, F3, hn3, ht3⟩
            rw [Q1.out, HLK.out]
            rw [Q2.out] at hn3
            have HS3 := Lib.hid (HST.out.step hn3 ht3)
            clear hn3 ht3
            go_wp2_with fail
            refine (quiet_any HS3.out.net).mono ?_
            rintro e w4 ⟨b, rfl, hq, hn4, hb4⟩
            obtain rfl : b = true := hq.2 Q3.out
            have HS4 := Lib.hid (HS3.out.after hn4 hb4)
            clear hq hn4 hb4
            go_wp2_with fail
            go_ret
            exact ⟨rfl, HS4.out.below⟩
  · have hd : decide (60 < (l.length : Int)) = true := by simp; omega
    go_wp2_with fail
    refine (awake_any _).mono ?_
    rintro e w3 ⟨rfl, hb3⟩
    have HS3 := Lib.hid (HS.out.after (HS.out.net.after hb3) hb3)
    clear hb3
    go_wp2_with fail
    go_ret
    exact ⟨rfl, HS3.out.below⟩
end Go.Proofs.Ytndiclkfincbgaa.Net
