/- Layer 8: the walk of NetOthers. Conditions: the slice of acts lies in memory that came in. -/
import Derived.Test.YtndiclkfincbgaaNetLaws
namespace Go.Proofs.Ytndiclkfincbgaa.Net
set_option linter.unusedSimpArgs false
set_option linter.unusedVariables false
open Go.RowKit
/-- two nets that the call made, apart from each other -/
structure Pair8 (w0 : World) (p q : Nat) (s t : NS) (F G : List Nat) (w : World) : Prop where
  x : Stand w0 p s F w
  y : Stand w0 q t G w
  ap : ∀ k, k ∈ F → k ∉ G
section
variable {w0 w w' : World} {p q : Nat} {s t s' : NS} {F G F' : List Nat}
theorem Pair8.symm (h : Pair8 w0 p q s t F G w) : Pair8 w0 q p t s G F w := ⟨h.y, h.x, fun k h1 h2 => h.ap k h2 h1⟩
theorem Pair8.left (h : Pair8 w0 p q s t F G w) (hn : NetIs w' p F' s') (ht : Turns F F' w w') : Pair8 w0 p q s' t F' G w' := by
  have h1 := h.x.step hn ht
  refine ⟨h1, ⟨h.y.net.kept ht.kept fun k hk hf => h.ap k hf hk, h.y.new, h1.below⟩, fun k hk hg => ?_⟩
  rcases ht.new k hk with hf | hf
  · exact h.ap k hf hg
  · have := h.y.net.lt hg; omega
theorem Pair8.right (h : Pair8 w0 p q s t F G w) (hn : NetIs w' q F' s') (ht : Turns G F' w w') : Pair8 w0 p q s s' F F' w' := (h.symm.left hn ht).symm
theorem Pair8.after (h : Pair8 w0 p q s t F G w) (hb : Below w.heap.size w w') : Pair8 w0 p q s t F G w' := ⟨h.x.after (h.x.net.after hb) hb, h.y.after (h.y.net.after hb) hb, h.ap⟩
end
structure OthRel (w : World) (p q : Nat) (a b : Int) (wr : World) : Prop where
  all : ∃ s t F G, Pair8 w p q s t F G wr ∧ s.Small ∧ t.Small ∧ Like s t a b
set_option maxRecDepth 100000 in
set_option maxHeartbeats 16000000 in
theorem others_walk (n room : Int) (A : Option Addr) (c : Nat) (l : List Act8) (from_ to_ : Int) (w : World) (hA : Sl w 0 w.heap.size 6 A l.length (l.flatMap Act8.cells)) (hy : l.length ≤ maxLen) :
    Calls Try.prog 8 #[.int .i64 n, .int .i64 room, .slice A l.length c, .int .i64 from_, .int .i64 to_] w fun e w' => e = .returned (.bool true) ∧ Below w.heap.size w w' := by
  have hy' := hy
  unfold maxLen at hy
  go_enter Try.func8, Try.ntmps8
  go_wp2_with fail
  refine (new_any n room _).mono ?_
  rintro e w1 ⟨p, F, rfl, hn, hF, hb⟩
  have HS1 := Lib.hid (show Stand w p (new n room) F w1 from ⟨hn, hF, hb⟩)
  clear hn hF hb
  go_wp2_with fail
  refine (new_any n room _).mono ?_
  rintro e w2 ⟨q, G, rfl, hn, hG, hb⟩
  have HS := Lib.hid (show Pair8 w p q (new n room) (new n room) F G w2 from ⟨HS1.out.after (HS1.out.net.after hb) hb, ⟨hn, fun k hk => Nat.le_trans HS1.out.below.size (hG k hk), HS1.out.below.trans (hb.mono HS1.out.below.size)⟩, fun k hk hg => by have := HS1.out.net.lt hk; have := hG k hg; omega⟩)
  clear hn hG hb
  go_wp2_with fail
  refine (awake_any _).mono ?_
  rintro e w3 ⟨rfl, hb2⟩
  have HS := Lib.hid (HS.out.after hb2)
  clear hb2
  go_wp2_with fail
  refine (few_any (hA.below HS.out.x.below (Nat.le_refl _)) hy').mono ?_
  rintro e w4 ⟨⟨b0, rfl, hfew⟩, rfl⟩
  have HFEW := Lib.hid hfew
  clear hfew
  cases b0
  · go_wp2_with fail
    refine (awake_any _).mono ?_
    rintro e w4 ⟨rfl, hb3⟩
    have HS3 := Lib.hid (HS.out.after hb3)
    clear hb3
    go_wp2_with fail
    go_ret
    exact ⟨rfl, HS3.out.x.below⟩
  · obtain ⟨h60, hshort⟩ := HFEW.out rfl
    have HSHORT := Lib.hid hshort
    have hrel : OthRel w p q from_ to_ w3 := ⟨_, _, F, G, HS.out, fun _ _ _ h => by simp [new] at h, fun _ _ _ h => by simp [new] at h, ⟨rfl, rfl, rfl⟩⟩
    have HREL := Lib.hid hrel
    clear hshort hrel
    go_wp2_with fail
    go_loopw [13] (fun i wr => ∃ k : Nat, k ≤ l.length ∧ i = .int .i64 (k : Int) ∧ OthRel w p q from_ to_ wr) (fun i _ => l.length - (intOf i).toNat)
    case atStart => exact ⟨0, Nat.zero_le _, rfl, HREL.out⟩
    case round =>
      obtain ⟨k, hk, rfl, hr⟩ := hrel
      obtain ⟨s, t, F, G, hst, hsm, htm, hlk⟩ := hr.all
      have HST := Lib.hid hst
      have HSM := Lib.hid hsm
      have HTM := Lib.hid htm
      have HLK := Lib.hid hlk
      clear hr hst hsm htm hlk
      by_cases hlt : k < l.length
      · have hA1 := hA.below HST.out.x.below (Nat.le_refl _)
        obtain ⟨g, o, rfl, _, hgl, hat⟩ := acts_at hA1 hlt
        have i0' : (0 : Int) ≤ (k : Int) := by omega
        have i1 : (k : Int) < (l.length : Int) := by omega
        have hsh := HSHORT.out l[k] (List.getElem_mem hlt)
        have HAT := Lib.hid hat
        clear hat
        generalize l[k] = a at *
        obtain ⟨K, A, B, N, X, S⟩ := a
        obtain ⟨c0, c1, c2, c3, c4, c5⟩ := HAT.out
        simp only at c0 c1 c2 c3 c4 c5 hsh
        have HSH := Lib.hid hsh
        have hbx : Below wr.heap.size wr (wr.alloc (.cells #[.int .i64 K, .int .i64 A, .int .i64 B, .int .i64 N, .int .i64 X, .string S] 32)) := (Below.refl _ _).alloc (Nat.le_refl _) _
        have HB := Lib.hid (HST.out.after hbx)
        have HN1 := Lib.hid (show wr.heap.size ∉ F from fun h => Nat.lt_irrefl _ (HST.out.x.net.lt h))
        have HN2 := Lib.hid (show wr.heap.size ∉ G from fun h => Nat.lt_irrefl _ (HST.out.y.net.lt h))
        have HX := Lib.hid (heap_alloc_new wr (.cells #[.int .i64 K, .int .i64 A, .int .i64 B, .int .i64 N, .int .i64 X, .string S] 32))
        clear hsh hbx
        go_wp2_with fail
        refine (act_any HB.out.x.net HSM.out ⟨K, A, B, N, X, S⟩).mono ?_
        rintro e w6 ⟨rfl, F6, hn6, ht6⟩
        have hx6 := (ht6.kept.block _ (lt_of_block HX.out) HN1.out).trans HX.out
        have H6 := Lib.hid (HB.out.left hn6 ht6)
        have HSM6 := Lib.hid (HSM.out.act ⟨K, A, B, N, X, S⟩ HSH.out)
        clear hn6 ht6 c0 c1 c2 c3 c4 c5
        have y0 := cell_of_block hx6 0
        have y1 := cell_of_block hx6 1
        have y2 := cell_of_block hx6 2
        have y3 := cell_of_block hx6 3
        have y4 := cell_of_block hx6 4
        have y5 := cell_of_block hx6 5
        simp at y0 y1 y2 y3 y4 y5
        clear hx6
        by_cases q1 : A = from_
        · by_cases q2 : B = to_
          · subst q1
            subst q2
            go_wp2_with fail
            refine (act_any H6.out.y.net HTM.out ⟨K, A, B, N, X, S⟩).mono ?_
            rintro e w7 ⟨rfl, F7, hn7, ht7⟩
            have HR := Lib.hid (show OthRel w p q A B w7 from ⟨_, _, _, _, H6.out.right hn7 ht7, HSM6.out, HTM.out.act _ HSH.out, HLK.out.act _ rfl rfl⟩)
            clear hn7 ht7 y0 y1 y2 y3 y4 y5
            go_wp2_with fail
            go_roundw
            case rel => exact ⟨k + 1, hlt, by go_num, HR.out⟩
            case measure => simp [intOf]; omega
          · have d2 : (B == to_) = false := beq_eq_false_iff_ne.2 q2
            subst q1
            have HR := Lib.hid (show OthRel w p q A to_ w6 from ⟨_, _, _, _, H6.out, HSM6.out, HTM.out, HLK.out.else_ _ fun h => q2 h.2.symm⟩)
            clear q2
            go_wp2_with fail
            go_roundw
            case rel => exact ⟨k + 1, hlt, by go_num, HR.out⟩
            case measure => simp [intOf]; omega
        · have d1 : (A == from_) = false := beq_eq_false_iff_ne.2 q1
          have HR := Lib.hid (show OthRel w p q from_ to_ w6 from ⟨_, _, _, _, H6.out, HSM6.out, HTM.out, HLK.out.else_ _ fun h => q1 h.1.symm⟩)
          clear q1
          go_wp2_with fail
          go_roundw
          case rel => exact ⟨k + 1, hlt, by go_num, HR.out⟩
          case measure => simp [intOf]; omega
      · obtain rfl : k = l.length := by omega
        have HREL := Lib.hid (show ∃ F G, Pair8 w p q s t F G wr from ⟨F, G, HST.out⟩)
        clear HST
        go_wp2_with fail
        obtain ⟨wo, hwo⟩ : ∃ wo : World, wo = wr := ⟨_, rfl⟩
        rw [← hwo] at HREL ⊢
        clear hwo
        go_loopw [15] (fun i wx => ∃ k : Nat, k ≤ 130 ∧ i = .int .i64 (k : Int) ∧ ∃ F G, Pair8 w p q s t F G wx) (fun i _ => 130 - (intOf i).toNat)
        case atStart => exact ⟨0, Nat.zero_le _, rfl, HREL.out⟩
        case round =>
          obtain ⟨k, hk, rfl, F, G, hst⟩ := hrel
          have HST := Lib.hid hst
          clear hst
          by_cases hlt : k < 130
          · have d0 : decide ((k : Int) < 130) = true := by simp; omega
            go_wp2_with fail
            refine (look_any HST.out.x.net from_ to_ k).mono ?_
            rintro e w7 ⟨rfl, F7, hn7, ht7⟩
            rw [HLK.out.look, HLK.out.isAt]
            have H7 := Lib.hid (HST.out.left hn7 ht7)
            clear hn7 ht7
            go_wp2_with fail
            refine (look_any H7.out.y.net from_ to_ k).mono ?_
            rintro e w8 ⟨rfl, F8, hn8, ht8⟩
            have H8 := Lib.hid (H7.out.right hn8 ht8)
            clear hn8 ht8
            generalize t.look from_ to_ k = tt
            generalize t.isAt from_ to_ k = ti
            go_wp2_with fail
            go_roundw
            case rel => exact ⟨k + 1, by omega, by go_num, _, _, H8.out⟩
            case measure => simp [intOf]; omega
          · have d0 : decide ((k : Int) < 130) = false := by simp; omega
            go_wp2_with fail
            refine (count_any HST.out.x.net from_ to_).mono ?_
            rintro e w7 ⟨rfl, F7, hn7, ht7⟩
            rw [HLK.out.f]
            have H7 := Lib.hid (HST.out.left hn7 ht7)
            clear hn7 ht7
            go_wp2_with fail
            refine (count_any H7.out.y.net from_ to_).mono ?_
            rintro e w8 ⟨rfl, F8, hn8, ht8⟩
            have H8 := Lib.hid (H7.out.right hn8 ht8)
            clear hn8 ht8
            go_wp2_with fail
            go_ret
            exact ⟨rfl, H8.out.x.below⟩
end Go.Proofs.Ytndiclkfincbgaa.Net
