/- Layer 2: the walk of RingDoes. Conditions: the slice of acts lies in memory that came in. -/
import Derived.Deep.RegionWith
import Derived.Deep.DeepCutAuto
import Derived.Deep.CutBlock
import Derived.Test.YtmbnnpmmbjdodaaLaw02Again
import Derived.StillTailTactics
namespace Go.Proofs.Ytmbnnpmmbjdodaa
open Go.RowKit

section
variable {w : World} {lo hi : Nat} {A : Option Addr} {c : Nat} {xs : List Int}
theorem refPush_any (m : Nat) (x : Int) (hA : Sl w lo hi 1 A xs.length (xs.map mkI)) (hhi : hi ≤ w.heap.size) (hlo : lo ≤ w.heap.size) (hx : xs.length ≤ 2000) (hcap : xs.length ≤ c) (hc : c ≤ maxLen) :
    Calls Try.prog 12 #[.agg #[.int .i64 (m : Int), .slice A xs.length c], .int .i64 x] w fun e w' => ∃ A' c', e = .returned (.tuple #[.agg #[.int .i64 (m : Int), .slice A' (RingI.pushed m xs x).length c'], .bool (decide (xs.length < m))]) ∧
      Sl w' lo w'.heap.size 1 A' (RingI.pushed m xs x).length ((RingI.pushed m xs x).map mkI) ∧ (RingI.pushed m xs x).length ≤ c' ∧ c' ≤ maxLen ∧ Below w.heap.size w w' := by
  unfold RingI.pushed
  by_cases hf : xs.length < m
  · rw [if_pos hf, decide_eq_true hf, List.length_append, List.length_singleton]
    exact (refPush_yes (m : Int) x hA hhi hx (by omega)).mono fun _ _ ⟨A', c', he, hs, h1, h2, hb⟩ => ⟨A', c', he, hs.wide hlo (Nat.le_refl _), h1, h2, hb⟩
  · rw [if_neg hf, decide_eq_false hf]
    exact (refPush_no (m : Int) x (by omega)).mono fun _ _ ⟨he, hb⟩ => ⟨A, c, he, (hA.below hb hhi).wide (Nat.le_refl _) (Nat.le_trans hhi hb.size), hcap, hc, hb⟩
theorem refCut_any (m : Nat) (i : Int) (hA : Sl w lo hi 1 A xs.length (xs.map mkI)) (hhi : hi ≤ w.heap.size) (hlo : lo ≤ w.heap.size) (hx : xs.length ≤ 2000) (hcap : xs.length ≤ c) (hc : c ≤ maxLen) :
    Calls Try.prog 14 #[.agg #[.int .i64 (m : Int), .slice A xs.length c], .int .i64 i] w fun e w' => ∃ A' c', e = .returned (.tuple #[.agg #[.int .i64 (m : Int), .slice A' (RingI.cutted xs i).length c'], .int .i64 (RingI.got xs i), .bool (RingI.has xs i)]) ∧
      Sl w' lo w'.heap.size 1 A' (RingI.cutted xs i).length ((RingI.cutted xs i).map mkI) ∧ (RingI.cutted xs i).length ≤ c' ∧ c' ≤ maxLen ∧ Below w.heap.size w w' := by
  unfold RingI.cutted
  cases hh : RingI.has xs i
  · rw [if_neg (by simp), RingI.got_no hh]
    exact (refCut_no (m : Int) i hA hhi hx hh).mono fun _ _ ⟨he, hb⟩ => ⟨A, c, he, (hA.below hb hhi).wide (Nat.le_refl _) (Nat.le_trans hhi hb.size), hcap, hc, hb⟩
  · rw [if_pos rfl]
    unfold RingI.has at hh
    obtain ⟨h0, h1⟩ := of_decide_eq_true hh
    obtain ⟨k, rfl⟩ := Int.eq_ofNat_of_zero_le h0
    have hk : k < xs.length := by omega
    have e : RingI.got xs (k : Int) = xs[k] := by
      unfold RingI.got
      rw [if_pos h0, Int.toNat_natCast, List.getD_eq_getElem?_getD, List.getElem?_eq_getElem hk]; rfl
    have el : (xs.eraseIdx k).length = xs.length - 1 := List.length_eraseIdx_of_lt hk
    rw [e, Int.toNat_natCast, el]
    exact (refCut_yes (m : Int) k hA hhi hx hcap hc hk).mono fun _ _ ⟨A', c', he, hs, h1, h2, hb⟩ => ⟨A', c', he, hs.wide hlo (Nat.le_refl _), h1, h2, hb⟩
end

/-- the ring, and the row of the document's answer, in block R -/
structure DoesSt (w0 : World) (p q R m : Nat) (xs ys : List Int) (W : World) : Prop where
  ring : RingI.Has W p q m xs
  row : ∃ A2 c2, W.heap[R]? = some (.cells #[.int .i64 (m : Int), .slice A2 ys.length c2] 28 (0, 0)) ∧ Sl W (R + 1) W.heap.size 1 A2 ys.length (ys.map mkI) ∧ ys.length ≤ c2 ∧ c2 ≤ maxLen
  bel : Below w0.heap.size w0 W
section
variable {w0 W W' : World} {p q R m : Nat} {xs ys zs : List Int}
theorem DoesSt.lt (h : DoesSt w0 p q R m xs ys W) : R < W.heap.size := by
  obtain ⟨A2, c2, h1, _⟩ := h.row
  exact lt_of_block h1
theorem DoesSt.ringed (h : DoesSt w0 p q R m xs ys W) (h4 : RingI.Has W' p q m zs) (hk : Kept [p, q] W W') (hp : p < R) (hq : q < R) (hL : ∀ x, x ∈ [p, q] → w0.heap.size ≤ x) : DoesSt w0 p q R m zs ys W' := by
  have hlt := h.lt
  obtain ⟨A2, c2, h1, h2, h3⟩ := h.row
  refine ⟨h4, ⟨A2, c2, (hk.block R hlt (by simp; omega)).trans h1, (h2.kept hk (Nat.le_refl _) (by simp; omega)).wide (Nat.le_refl _) hk.size, h3⟩, Kept.after h.bel hk hL⟩
theorem DoesSt.below (h : DoesSt w0 p q R m xs ys W) (hb : Below W.heap.size W W') : DoesSt w0 p q R m xs ys W' := by
  have hlt := h.lt
  have hs := h.bel.size
  obtain ⟨A2, c2, h1, h2, h3⟩ := h.row
  exact ⟨h.ring.below hb h.ring.p_lt h.ring.q_lt, ⟨A2, c2, (hb.block R hlt).trans h1, (h2.below hb (Nat.le_refl _)).wide (Nat.le_refl _) hb.size, h3⟩, h.bel.trans (hb.mono hs)⟩
theorem DoesSt.drewN (h : DoesSt w0 p q R m xs ys W) (n : Nat) : DoesSt w0 p q R m xs ys (W.drewN n) := ⟨h.ring.drewN n, h.row, below_drewN h.bel n⟩
theorem DoesSt.heap (h : DoesSt w0 p q R m xs ys W) (e : W'.heap = W.heap) (e1 : W'.os = W.os) (e2 : W'.tape = W.tape) (e3 : W'.output = W.output) : DoesSt w0 p q R m xs ys W' := by
  have hb : Below W.heap.size W W' := ⟨e1, e2, e3, by rw [e]; exact Nat.le_refl _, fun k _ => by rw [e]⟩
  exact h.below hb
/-- the row is another one -/
theorem DoesSt.rowed (h : DoesSt w0 p q R m xs ys W) (hb : Below W.heap.size W W') {A' : Option Addr} {c' : Nat} (hs : Sl W' (R + 1) W'.heap.size 1 A' zs.length (zs.map mkI)) (h1 : zs.length ≤ c') (h2 : c' ≤ maxLen) (hp : p < R) (hq : q < R) (hR : w0.heap.size ≤ R) :
    DoesSt w0 p q R m xs zs ((W'.setCell ⟨R, 0, none⟩ (.int .i64 (m : Int))).setCell ⟨R, 1, none⟩ (.slice A' zs.length c')) := by
  have h' := h.below hb
  obtain ⟨A2, c2, hr, _⟩ := h'.row
  refine ⟨?_, ⟨A', c', ?_, ?_, h1, h2⟩, (h'.bel.setCell hR _).setCell hR _⟩
  · exact h'.ring.kept (((Kept.refl [R] _).setCell (.inl (by simp)) _).setCell (.inl (by simp)) _) (by simp; omega) (by simp; omega)
  · have e1 := set_block hr 0 (.int .i64 (m : Int))
    have e2 := set_block e1 1 (.slice A' zs.length c')
    rw [e2]
    simp
  · rw [size_setCell, size_setCell]
    exact (hs.setCell (p := ⟨R, 0, none⟩) (by simp) _).setCell (p := ⟨R, 1, none⟩) (by simp) _
end

theorem acts_at (l : List (Int × Int)) (k : Nat) (hk : k < l.length) : (l.flatMap fun a => [mkI a.1, mkI a.2])[k * 2]? = some (mkI l[k].1) ∧ (l.flatMap fun a => [mkI a.1, mkI a.2])[k * 2 + 1]? = some (mkI l[k].2) := by
  induction l generalizing k with
  | nil => simp at hk
  | cons a l ih =>
    cases k with
    | zero => simp
    | succ k =>
      have := ih k (by simpa using hk)
      simp only [List.flatMap_cons, List.getElem_cons_succ]
      rw [show (k + 1) * 2 = (k * 2) + 1 + 1 from by omega, show (k * 2) + 1 + 1 + 1 = (k * 2 + 1) + 1 + 1 from by omega]
      simpa using this

theorem pop_cut {w : World} {p q m : Nat} {xs : List Int} (h : RingI.Has w p q m xs) :
    Calls Try.prog 13 #[.pointer (some ⟨p, 0, none⟩)] w fun e w' => e = .returned (.tuple #[.int .i64 (RingI.got xs 0), .bool (RingI.has xs 0)]) ∧ RingI.Has w' p q m (RingI.cutted xs 0) ∧ Kept [p, q] w w' := by
  have e1 : xs.headD 0 = RingI.got xs 0 := by cases xs <;> simp [RingI.got]
  have e2 : (!xs.isEmpty) = RingI.has xs 0 := by
    unfold RingI.has; cases xs
    · rfl
    · simp
  have e3 : xs.tail = RingI.cutted xs 0 := by
    unfold RingI.cutted; rw [← e2]; cases xs <;> simp
  have := RingI.pop_has h
  rw [e1, e2, e3] at this
  exact this
set_option maxRecDepth 100000 in
set_option maxHeartbeats 8000000 in
theorem does_walk (room : Int) (A : Option Addr) (c : Nat) (l : List (Int × Int)) (w : World) (hA : Sl w 0 w.heap.size 2 A l.length (l.flatMap fun a => [mkI a.1, mkI a.2])) (hy : l.length ≤ maxLen) :
    Calls Try.prog 3 #[.int .i64 room, .slice A l.length c] w fun e w' => e = .returned (.bool true) ∧ Below w.heap.size w w' := by
  unfold maxLen at hy
  have hL : ∀ x, x ∈ [w.heap.size + 1, w.heap.size] → w.heap.size ≤ x := by simp
  have HL := Lib.hid hL
  clear hL
  have hm0 : (RingI.clamp room : Int) = min (max room 0) 1000 := by unfold RingI.clamp; omega
  have HM := Lib.hid hm0
  have hm1 : RingI.clamp room ≤ 1000 := by omega
  clear hm0
  by_cases h60 : l.length ≤ 60
  · have hd1 : decide (60 < (l.length : Int)) = false := by simp; omega
    go_enter Try.func3, Try.ntmps3
    go_wp2_with fail
    refine (RingI.new_has room _).mono ?_
    rintro e w1 ⟨rfl, h1, hb1⟩
    generalize RingI.clamp room = m at *
    go_wp2_with fail
    refine (awake_any _).mono ?_
    rintro e w2 ⟨rfl, hb2⟩
    have h2 := h1.below hb2 h1.p_lt h1.q_lt
    have hbw := hb1.trans (hb2.mono hb1.size)
    have hbs := hbw.size
    go_upto_region 5 with fail
    go_cut [6, 7] (fun s6 s7 wx => s6 = .pointer (some ⟨w2.heap.size, 0, none⟩) ∧ s7 = .int .i64 0 ∧ wx = w2.alloc (.cells #[.int .i64 (m : Int), .slice none 0 0] 28))
    case first =>
      go_wp2_with fail
      all_goals (go_meet; exact ⟨rfl, rfl, by rw [HM.out]; congr 5; omega⟩)
    case rest =>
      obtain ⟨rfl, rfl, rfl⟩ := hcut
      have hpR : w.heap.size + 1 < w2.heap.size := h2.p_lt
      have hqR : w.heap.size < w2.heap.size := by omega
      have hst : DoesSt w (w.heap.size + 1) w.heap.size w2.heap.size m [] [] (w2.alloc (.cells #[.int .i64 (m : Int), .slice none 0 0] 28)) :=
        ⟨h2.below ((Below.refl w2.heap.size w2).alloc (Nat.le_refl _) _) hpR hqR, ⟨none, 0, heap_alloc_new w2 _, Sl.nil _ _ _ _ _, Nat.le_refl _, Nat.zero_le _⟩, hbw.alloc hbs _⟩
      have HST := Lib.hid hst
      clear hst h2 h1
      go_wp2_with fail
      go_loopw [7] (fun i wr => ∃ k xs, k ≤ l.length ∧ i = .int .i64 (k : Int) ∧ DoesSt w (w.heap.size + 1) w.heap.size w2.heap.size m xs xs wr) (fun i _ => l.length - (intOf i).toNat)
      case atStart => exact ⟨0, [], Nat.zero_le _, rfl, HST.out⟩
      case round =>
        obtain ⟨k, xs, hk, rfl, hr⟩ := hrel
        have hcap := hr.ring.cap
        by_cases hlt : k < l.length
        · have hA1 := hA.below hr.bel (Nat.le_refl _)
          obtain ⟨b1, o1, rfl, _, hbl, hc1, hc2⟩ := hA1.at2 hlt
          rw [(acts_at l k hlt).1] at hc1
          rw [(acts_at l k hlt).2] at hc2
          generalize l[k].1 = K at *
          generalize l[k].2 = X at *
          have i0' : (0 : Int) ≤ (k : Int) := by omega
          have i1 : (k : Int) < (l.length : Int) := by omega
          have hbs2 := hr.bel.size
          have hRl := hr.lt
          have hne1 : b1 ≠ w.heap.size + 1 := by omega
          have hne2 : b1 ≠ w.heap.size := by omega
          obtain ⟨A2, c2, hrow, hsl, hc2a, hc2b⟩ := hr.row
          · go_upto_block 2 with fail
            go_cut [8, 9, 10, 11] (fun s8 s9 s10 s11 wx => ∃ (x : Int) (b : Bool) (zs : List Int), s8 = .int .i64 x ∧ s9 = .int .i64 x ∧ s10 = .bool b ∧ s11 = .bool b ∧ DoesSt w (w.heap.size + 1) w.heap.size w2.heap.size m zs zs wx)
            case first =>
              by_cases hK0 : K = 0
              · subst hK0
                go_wp2_with fail
                refine (RingI.push_has hr.ring X).mono ?_
                rintro e w4 ⟨rfl, h4, hk4⟩
                have hst4 := hr.ringed h4 hk4 hpR hqR HL.out
                have hc1' := (hk4.cell (p := ⟨b1, o1 + k * 2, none⟩) (by simp; omega) (by simp [hne1, hne2])).trans hc1
                have hc2' := (hk4.cell (p := ⟨b1, o1 + k * 2 + 1, none⟩) (by simp; omega) (by simp [hne1, hne2])).trans hc2
                obtain ⟨A4, c4, hrow4, hsl4, hc4a, hc4b⟩ := hst4.row
                have hr0 := cell_of_block hrow4 0
                have hr1 := cell_of_block hrow4 1
                simp at hr0 hr1
                have hx2 : xs.length ≤ 2000 := by omega
                go_wp2_with fail
                have hst4d := hst4.drewN 1
                have hlo4 := hst4.lt
                go_region_with (go_at_call 12; refine (refPush_any (lo := w2.heap.size + 1) m X (by exact hsl4) (by exact Nat.le_refl _) (by exact hlo4) hx2 hc4a hc4b).mono ?_; rintro e w5 ⟨A5, c5, rfl, hsl5, hc5a, hc5b, hb5⟩; have hc1'' := (hb5.cell (p := ⟨b1, o1 + k * 2, none⟩) (by simp; omega)).trans hc1'; have hc2'' := (hb5.cell (p := ⟨b1, o1 + k * 2 + 1, none⟩) (by simp; omega)).trans hc2'; have hr0' := (hb5.cell (p := ⟨w2.heap.size, 0, none⟩) (by simp; omega)).trans hr0; have hr1' := (hb5.cell (p := ⟨w2.heap.size, 1, none⟩) (by simp; omega)).trans hr1; have hf0' := (hb5.frozen (p := ⟨w2.heap.size, 0, none⟩) (by simp; omega)).trans (frozen_of_block (w := w4) hrow4 0); have hf1' := (hb5.frozen (p := ⟨w2.heap.size, 1, none⟩) (by simp; omega)).trans (frozen_of_block (w := w4) hrow4 1))
                all_goals
                  go_wp2_with fail
                  go_meet
                  exact ⟨0, _, _, rfl, rfl, rfl, rfl, hst4d.rowed hb5 hsl5 hc5a hc5b hpR hqR hbs⟩
              · by_cases hK1 : K = 1
                · subst hK1
                  go_wp2_with fail
                  refine (pop_cut hr.ring).mono ?_
                  rintro e w4 ⟨rfl, h4, hk4⟩
                  have hst4 := hr.ringed h4 hk4 hpR hqR HL.out
                  have hc1' := (hk4.cell (p := ⟨b1, o1 + k * 2, none⟩) (by simp; omega) (by simp [hne1, hne2])).trans hc1
                  have hc2' := (hk4.cell (p := ⟨b1, o1 + k * 2 + 1, none⟩) (by simp; omega) (by simp [hne1, hne2])).trans hc2
                  obtain ⟨A4, c4, hrow4, hsl4, hc4a, hc4b⟩ := hst4.row
                  have hr0 := cell_of_block hrow4 0
                  have hr1 := cell_of_block hrow4 1
                  simp at hr0 hr1
                  have hx2 : xs.length ≤ 2000 := by omega
                  go_wp2_with fail
                  have hst4d := hst4
                  have hlo4 := hst4.lt
                  go_wp2_with fail
                  refine (refCut_any (lo := w2.heap.size + 1) m 0 (by exact hsl4) (by exact Nat.le_refl _) (by exact hlo4) hx2 hc4a hc4b).mono ?_
                  rintro e w5 ⟨A5, c5, rfl, hsl5, hc5a, hc5b, hb5⟩
                  have hst5 := hst4d.rowed hb5 hsl5 hc5a hc5b hpR hqR hbs
                  have hc1'' := (hb5.cell (p := ⟨b1, o1 + k * 2, none⟩) (by simp; omega)).trans hc1'
                  have hc2'' := (hb5.cell (p := ⟨b1, o1 + k * 2 + 1, none⟩) (by simp; omega)).trans hc2'
                  have hr0' := (hb5.cell (p := ⟨w2.heap.size, 0, none⟩) (by simp; omega)).trans hr0
                  have hr1' := (hb5.cell (p := ⟨w2.heap.size, 1, none⟩) (by simp; omega)).trans hr1
                  have hf0' := (hb5.frozen (p := ⟨w2.heap.size, 0, none⟩) (by simp; omega)).trans (frozen_of_block (w := w4) hrow4 0)
                  have hf1' := (hb5.frozen (p := ⟨w2.heap.size, 1, none⟩) (by simp; omega)).trans (frozen_of_block (w := w4) hrow4 1)
                  go_wp2_with fail
                  go_meet
                  exact ⟨RingI.got xs 0, _, _, rfl, rfl, rfl, rfl, hst5⟩
                · by_cases hK2 : K = 2
                  · subst hK2
                    go_wp2_with fail
                    refine (RingI.cut_has hr.ring X).mono ?_
                    rintro e w4 ⟨rfl, h4, hk4⟩
                    have hst4 := hr.ringed h4 hk4 hpR hqR HL.out
                    have hc1' := (hk4.cell (p := ⟨b1, o1 + k * 2, none⟩) (by simp; omega) (by simp [hne1, hne2])).trans hc1
                    have hc2' := (hk4.cell (p := ⟨b1, o1 + k * 2 + 1, none⟩) (by simp; omega) (by simp [hne1, hne2])).trans hc2
                    obtain ⟨A4, c4, hrow4, hsl4, hc4a, hc4b⟩ := hst4.row
                    have hr0 := cell_of_block hrow4 0
                    have hr1 := cell_of_block hrow4 1
                    simp at hr0 hr1
                    have hx2 : xs.length ≤ 2000 := by omega
                    go_wp2_with fail
                    have hst4d := hst4.drewN 1
                    have hlo4 := hst4.lt
                    go_region_with (go_at_call 14; refine (refCut_any (lo := w2.heap.size + 1) m X (by exact hsl4) (by exact Nat.le_refl _) (by exact hlo4) hx2 hc4a hc4b).mono ?_; rintro e w5 ⟨A5, c5, rfl, hsl5, hc5a, hc5b, hb5⟩; have hc1'' := (hb5.cell (p := ⟨b1, o1 + k * 2, none⟩) (by simp; omega)).trans hc1'; have hc2'' := (hb5.cell (p := ⟨b1, o1 + k * 2 + 1, none⟩) (by simp; omega)).trans hc2'; have hr0' := (hb5.cell (p := ⟨w2.heap.size, 0, none⟩) (by simp; omega)).trans hr0; have hr1' := (hb5.cell (p := ⟨w2.heap.size, 1, none⟩) (by simp; omega)).trans hr1; have hf0' := (hb5.frozen (p := ⟨w2.heap.size, 0, none⟩) (by simp; omega)).trans (frozen_of_block (w := w4) hrow4 0); have hf1' := (hb5.frozen (p := ⟨w2.heap.size, 1, none⟩) (by simp; omega)).trans (frozen_of_block (w := w4) hrow4 1))
                    all_goals
                      go_wp2_with fail
                      go_meet
                      exact ⟨RingI.got xs X, _, _, rfl, rfl, rfl, rfl, hst4d.rowed hb5 hsl5 hc5a hc5b hpR hqR hbs⟩
                  · have hq0 : (K == 0) = false := beq_eq_false_iff_ne.2 hK0
                    have hq1 : (K == 1) = false := beq_eq_false_iff_ne.2 hK1
                    have hq2 : (K == 2) = false := beq_eq_false_iff_ne.2 hK2
                    have hr0 := cell_of_block hrow 0
                    have hr1 := cell_of_block hrow 1
                    simp at hr0 hr1
                    have hx2 : xs.length ≤ maxLen := by unfold maxLen; omega
                    go_wp2_with fail
                    refine (RingI.at_has hr.ring X).mono ?_
                    rintro e w4 ⟨rfl, n4, rfl⟩
                    go_wp2_with fail
                    go_region_with (go_at_call 17; refine (refAt_any m X (by exact hsl) (by exact Nat.le_refl _) hx2).mono ?_; rintro e w5 ⟨rfl, hb5⟩)
                    all_goals
                      go_wp2_with fail
                      go_meet
                      exact ⟨RingI.got xs X, _, _, rfl, rfl, rfl, rfl, (hr.drewN (n4 + 1)).below hb5⟩
            case rest =>
              obtain ⟨x, b, zs, rfl, rfl, rfl, rfl, hst5⟩ := hcut
              have hcap6 := hst5.ring.cap
              obtain ⟨A6, c6, hrow6, hsl6, hc6a, hc6b⟩ := hst5.row
              have g0 := cell_of_block hrow6 0
              have g1 := cell_of_block hrow6 1
              simp at g0 g1
              have hR6 := hst5.lt
              have hzl : zs.length ≤ maxLen := by unfold maxLen; omega
              have hwr : IntKind.i64.wrap ((m : Int) - (zs.length : Int)) = (m : Int) - (zs.length : Int) := IntWalk.i64_in _ (by omega)
              go_wp2_with fail
              go_region_held3 (fun w' => w'.cell? ⟨w2.heap.size, 0, none⟩ = some (.int .i64 (m : Int)) ∧ w'.cell? ⟨w2.heap.size, 1, none⟩ = some (.slice A6 zs.length c6)) (first | exact ⟨g0, g1⟩ | exact ⟨(hb7.cell (p := ⟨w2.heap.size, 0, none⟩) (by exact hR6)).trans g0, (hb7.cell (p := ⟨w2.heap.size, 1, none⟩) (by exact hR6)).trans g1⟩) (first | (go_at_call 19; refine (RingI.all_has (by exact (hst5.drewN 1).ring)).mono ?_; rintro e w7 ⟨v7, rfl, ho7, hb7⟩; obtain ⟨A7, c7, rfl, _, hsl7⟩ := Sl.of_own ho7) | (go_at_call 18; refine (same_any (by exact hsl7) (by exact (hsl6.drewN 1).below hb7 (Nat.le_refl _)) hzl hzl).mono ?_; rintro e w8 ⟨rfl, n8, rfl⟩) | (go_at_call 20; refine (RingI.len_has (by exact (((hst5.drewN 1).below hb7).drewN n8).ring)).mono ?_; rintro e w9 ⟨rfl, rfl⟩) | (go_at_call 21; refine (RingI.room_has (by exact (((hst5.drewN 1).below hb7).drewN n8).ring)).mono ?_; rintro e w9 ⟨rfl, n9, rfl⟩))
              go_wp2_with fail
              go_roundw
              case rel => exact ⟨k + 1, zs, hlt, by go_num, ((hst5.drewN 1).below hb7).drewN (n8 + n9)⟩
              case measure => simp [intOf]; omega
        · obtain rfl : k = l.length := by omega
          go_wp2_with fail
          go_ret
          exact ⟨rfl, hr.bel⟩
  · have hd : decide (60 < (l.length : Int)) = true := by simp; omega
    go_enter Try.func3, Try.ntmps3
    go_wp2_with fail
    refine (RingI.new_has room _).mono ?_
    rintro e w1 ⟨rfl, h1, hb1⟩
    go_wp2_with fail
    refine (awake_any _).mono ?_
    rintro e w2 ⟨rfl, hb2⟩
    go_wp2_with fail
    refine (awake_any _).mono ?_
    rintro e w3 ⟨rfl, hb3⟩
    have hbw := hb1.trans (hb2.mono hb1.size)
    go_wp2_with fail
    go_ret
    exact ⟨rfl, hbw.trans (hb3.mono hbw.size)⟩
end Go.Proofs.Ytmbnnpmmbjdodaa
