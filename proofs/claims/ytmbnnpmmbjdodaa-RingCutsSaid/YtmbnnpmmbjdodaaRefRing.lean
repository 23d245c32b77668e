/- Layer 2: what the references of layers 1 and 2 answer. Conditions: the slices lie (Sl). -/
import Derived.Test.YtmbnnpmmbjdodaaRingI
import Derived.Test.YtmbnnpmmbjdodaaSlices
import Derived.Deep.RegionLaw
import Derived.Deep.DrawnRows
namespace Go.Proofs.Ytmbnnpmmbjdodaa
set_option linter.unusedSimpArgs false
set_option linter.unusedVariables false
open Go.RowKit

abbrev mkI : Int → Value := Value.int .i64
theorem same_step {xs ys : List Int} {k : Nat} (h : xs.take k = ys.take k) (hx : k < xs.length) (hy : k < ys.length) (e : xs[k] = ys[k]) : xs.take (k + 1) = ys.take (k + 1) := by
  rw [List.take_succ_eq_append_getElem hx, List.take_succ_eq_append_getElem hy, h, e]
theorem same_not {xs ys : List Int} {k : Nat} (hx : k < xs.length) (hy : k < ys.length) (e : xs[k] ≠ ys[k]) : (xs == ys) = false := by
  rw [beq_eq_false_iff_ne]; intro h; subst h; exact e rfl
theorem same_len {xs ys : List Int} (e : xs.length ≠ ys.length) : (xs == ys) = false := by
  rw [beq_eq_false_iff_ne]; intro h; subst h; exact e rfl
theorem same_all {xs ys : List Int} (h : xs.take xs.length = ys.take xs.length) (hl : xs.length = ys.length) : (xs == ys) = true := by
  rw [beq_iff_eq]
  rw [List.take_length] at h
  rw [h, hl, List.take_length]
set_option maxHeartbeats 1000000 in
theorem same_any {w : World} {lo hi lo' hi' : Nat} {A B : Option Addr} {c d : Nat} {xs ys : List Int} (hA : Sl w lo hi 1 A xs.length (xs.map mkI)) (hB : Sl w lo' hi' 1 B ys.length (ys.map mkI)) (hx : xs.length ≤ maxLen) (_hy : ys.length ≤ maxLen) :
    Calls Try.prog 18 #[.slice A xs.length c, .slice B ys.length d] w fun e w' => e = .returned (.bool (xs == ys)) ∧ ∃ n, w' = w.drewN n := by
  unfold maxLen at hx _hy
  by_cases hl : xs.length = ys.length
  · have hd : ((xs.length : Int) != (ys.length : Int)) = false := by simp; omega
    have HL := Lib.hid hl
    clear hl
    go_enter Try.func18, Try.ntmps18
    go_wp2_with fail
    go_loopw [5] (fun i wr => ∃ k n, k ≤ xs.length ∧ i = .int .i64 (k : Int) ∧ xs.take k = ys.take k ∧ wr = w.drewN n) (fun i _ => xs.length - (intOf i).toNat)
    case atStart => exact ⟨0, 0, Nat.zero_le _, rfl, rfl, rfl⟩
    case round =>
      obtain ⟨k, n, hk, rfl, hxy, rfl⟩ := hrel
      by_cases hlt : k < xs.length
      · have hlt' : k < ys.length := by rw [← HL.out]; exact hlt
        obtain ⟨b1, o1, rfl, _, _, hc1⟩ := hA.at1 hlt
        obtain ⟨b2, o2, rfl, _, _, hc2⟩ := hB.at1 hlt'
        rw [List.getElem?_map, List.getElem?_eq_getElem hlt] at hc1
        rw [List.getElem?_map, List.getElem?_eq_getElem hlt'] at hc2
        simp only [Option.map_some] at hc1 hc2
        have i0 : (0 : Int) ≤ (k : Int) := by omega
        have i1 : (k : Int) < (xs.length : Int) := by omega
        have i2 : (k : Int) < (ys.length : Int) := by omega
        have hst := Lib.hid (fun e => same_step hxy hlt hlt' e)
        have hno := Lib.hid (fun e => same_not hlt hlt' e)
        have HXY := Lib.hid hxy
        clear hxy
        generalize xs[k] = x at *
        generalize ys[k] = y at *
        by_cases hxy : x = y
        · have hne : (x != y) = false := by simp [hxy]
          have HE := Lib.hid hxy
          clear hxy
          go_wp2_with fail
          go_quiet (fail)
          go_wp2
          go_roundw
          case rel => exact ⟨k + 1, _, hlt, by go_num, hst.out HE.out, rfl⟩
          case measure => simp [intOf]; omega
        · have hne : (x != y) = true := by simp [hxy]
          have HE := Lib.hid hxy
          clear hxy
          go_wp2_with fail
          go_quiet (fail)
          go_wp2
          go_ret
          exact ⟨by rw [hno.out HE.out]; rfl, n + nq, by rw [World.drewN_drewN]⟩
      · obtain rfl : k = xs.length := by omega
        have hall := Lib.hid (same_all hxy HL.out)
        clear hxy
        go_wp2
        go_ret
        exact ⟨by rw [hall.out]; rfl, _, rfl⟩
  · have hd : ((xs.length : Int) != (ys.length : Int)) = true := by simp; omega
    have hn := Lib.hid (same_len hl)
    clear hl
    go_enter Try.func18, Try.ntmps18
    go_wp2
    go_ret
    exact ⟨by rw [hn.out]; rfl, 0, rfl⟩

set_option maxHeartbeats 1000000 in
theorem refAt_any {w : World} {lo hi : Nat} {A : Option Addr} {c : Nat} {xs : List Int} (room i : Int) (hA : Sl w lo hi 1 A xs.length (xs.map mkI)) (hhi : hi ≤ w.heap.size) (_hx : xs.length ≤ maxLen) :
    Calls Try.prog 17 #[.agg #[.int .i64 room, .slice A xs.length c], .int .i64 i] w fun e w' => e = .returned (.tuple #[.int .i64 (RingI.got xs i), .bool (RingI.has xs i)]) ∧ Below w.heap.size w w' := by
  unfold maxLen at _hx
  cases hh : RingI.has xs i
  · rw [RingI.got_no hh]
    unfold RingI.has at hh
    have hh := of_decide_eq_false hh
    by_cases h0 : i < 0
    · have hd : decide (i < 0) = true := by simpa using h0
      clear hh
      go_enter Try.func17, Try.ntmps17
      go_wp2
      go_ret2
      exact ⟨rfl, (Below.refl _ _).alloc (Nat.le_refl _) _⟩
    · have hd : decide (i < 0) = false := by simpa using h0
      have hd2 : decide ((xs.length : Int) ≤ i) = true := by simp; omega
      clear hh
      go_enter Try.func17, Try.ntmps17
      go_wp2
      go_ret2
      exact ⟨rfl, (Below.refl _ _).alloc (Nat.le_refl _) _⟩
  · unfold RingI.has at hh
    obtain ⟨h0, h1⟩ := of_decide_eq_true hh
    obtain ⟨k, rfl⟩ := Int.eq_ofNat_of_zero_le h0
    have hk : k < xs.length := by omega
    have e : RingI.got xs (k : Int) = xs[k] := by
      unfold RingI.got
      rw [if_pos h0, Int.toNat_natCast, List.getD_eq_getElem?_getD, List.getElem?_eq_getElem hk]; rfl
    rw [e]
    obtain ⟨b1, o1, rfl, _, hlt, hc1⟩ := hA.at1 hk
    rw [List.getElem?_map, List.getElem?_eq_getElem hk] at hc1
    simp only [Option.map_some] at hc1
    have hc2 : ∀ o, (w.alloc o).cell? ⟨b1, o1 + k, none⟩ = some (mkI xs[k]) := fun o => (World.cell?_alloc_lt w o _ (by simp; omega)).trans hc1
    have hd : decide ((k : Int) < 0) = false := by simp
    have hd2 : decide ((xs.length : Int) ≤ (k : Int)) = false := by simp; omega
    clear hh e
    generalize xs[k] = x at *
    go_enter Try.func17, Try.ntmps17
    go_wp2
    go_ret2
    exact ⟨rfl, (Below.refl _ _).alloc (Nat.le_refl _) _⟩

set_option maxHeartbeats 1000000 in
theorem refPush_no {w : World} {A : Option Addr} {n c : Nat} (room x : Int) (hf : room ≤ (n : Int)) :
    Calls Try.prog 12 #[.agg #[.int .i64 room, .slice A n c], .int .i64 x] w fun e w' => e = .returned (.tuple #[.agg #[.int .i64 room, .slice A n c], .bool false]) ∧ Below w.heap.size w w' := by
  go_enter Try.func12, Try.ntmps12
  go_wp2
  exact bodyPost_ret (v := .tuple #[.agg #[.int .i64 room, .slice A n c], .bool false]) (by simp [results, Try.results12, go_sem]) rfl ⟨rfl, ((Below.refl _ _).alloc (Nat.le_refl _) _).alloc (by simp) _⟩
set_option maxHeartbeats 1000000 in
theorem refPush_yes {w : World} {lo hi : Nat} {A : Option Addr} {c : Nat} {xs : List Int} (room x : Int) (hA : Sl w lo hi 1 A xs.length (xs.map mkI)) (hhi : hi ≤ w.heap.size) (hx : xs.length ≤ 2000) (hf : (xs.length : Int) < room) :
    Calls Try.prog 12 #[.agg #[.int .i64 room, .slice A xs.length c], .int .i64 x] w fun e w' => ∃ A' c', e = .returned (.tuple #[.agg #[.int .i64 room, .slice A' (xs.length + 1) c'], .bool true]) ∧ Sl w' w.heap.size w'.heap.size 1 A' (xs.length + 1) ((xs ++ [x]).map mkI) ∧ xs.length + 1 ≤ c' ∧ c' ≤ maxLen ∧ Below w.heap.size w w' := by
  obtain ⟨i0, hi0, hz0, hz1, hz2⟩ := info_parts RingI.elem_info
  have hd : decide (room ≤ (xs.length : Int)) = false := by simp; omega
  generalize hys : xs.map mkI = ys at *
  have hone : ∀ u ∈ ys, u.oneCell' = true := by subst hys; intro u hu; obtain ⟨z, _, rfl⟩ := List.mem_map.1 hu; rfl
  have HONE := Lib.hid hone
  have HYS := Lib.hid hys
  have HF := Lib.hid hf
  clear hys hone hf
  go_enter Try.func12, Try.ntmps12
  go_wp2_with (first
    | (at_builtin
       refine wpList_append_any _ rfl (.tmp 13) (.tmp 15) _ rfl (w.heap.size + 2) 3 i0 _ 1 8 Try.underlying26 hi0 hz0 hz1 hz2 rfl (by omega) (.slice (some ⟨w.heap.size + 1 + 1, 0, none⟩) 0 0) 0 [] rfl
         (by simpa using own_empty ((w.alloc (.cells #[.int .i64 room, .slice A xs.length c] 28)).alloc (.cells #[.int .i64 0, .slice none 0 0] 28)) (w.heap.size + 2) 3 1 (by simp)) lo hi A xs.length c ys rfl
         (((hA.alloc hhi _).alloc (by simp; omega) _).alloc (by simp; omega) _) HONE.out (by unfold maxLen; omega) (by omega) (by simp) ?_
       intro v1 w1 hown1 hg1 hat1
       have hbw1 : Below (w.heap.size + 2) ((w.alloc (.cells #[.int .i64 room, .slice A xs.length c] 28)).alloc (.cells #[.int .i64 0, .slice none 0 0] 28)) w1 := ((Below.refl _ _).alloc (by simp) _).grown hg1 (by simp) (by simp [Value.ownBlock]))
    | (at_builtin
       refine wpList_append_lies _ rfl (.tmp 16) (.tmp 18) _ rfl (w.heap.size + 2) 3 i0 _ 1 8 Try.underlying26 hi0 hz0 hz1 hz2 rfl (by omega) v1 (0 + xs.length) ([] ++ ys) rfl
         (hown1.alloc _) ⟨w1.heap.size, 0, none⟩ 1 1 [.int .i64 x] rfl rfl (World.news_of_block (cs := #[.int .i64 x]) (t := 3) (fr := (0, 0)) (heap_alloc_new _ _)) (by simp [Value.oneCell']) (by omega) (by unfold maxLen; omega) (by omega) (by have := hbw1.size; simp at this ⊢; omega) (w1.heap.size + 1) (by simp) ?_
       intro g cap w2 hown2 hg2 hat2 hlt2
       have hbw2 : Below (w.heap.size + 2) ((w.alloc (.cells #[.int .i64 room, .slice A xs.length c] 28)).alloc (.cells #[.int .i64 0, .slice none 0 0] 28)) w2 :=
         (hbw1.alloc (by have := hbw1.size; simp at this; omega) _).grown hg2 (by have := hbw1.size; simp at this ⊢; omega) (fun k hk => own_base hown1 hk)
       simp only [Nat.zero_add, List.nil_append] at hown2
       obtain ⟨hcc, hff⟩ := bcell hbw2
       have hza := hbw2.size
       simp at hza))
  have hsl := Sl.of_lit hown2
  refine bodyPost_ret (v := .tuple #[.agg #[.int .i64 room, .slice (some ⟨g, 0, none⟩) (xs.length + 1) cap], .bool true]) (by simp [results, Try.results12, go_sem, hcc, hza]) rfl ⟨some ⟨g, 0, none⟩, cap, rfl, ?_, (own_cap hown2).1, (own_cap hown2).2, ?_⟩
  · rw [size_setCell, size_setCell, size_setCell, List.map_append, HYS.out]
    exact (((hsl.setCell (p := ⟨w.heap.size, 1, none⟩) (by simp) _).setCell (p := ⟨w.heap.size + 1, 0, none⟩) (by simp) _).setCell (p := ⟨w.heap.size + 1, 1, none⟩) (by simp) _).wide (by omega) (Nat.le_refl _)
  · exact (((((Below.refl _ _).alloc (Nat.le_refl _) _).alloc (by simp) _).trans (hbw2.mono (by omega))).setCell (by simp) _).setCell (by simp) _ |>.setCell (by simp) _

set_option maxHeartbeats 1000000 in
theorem refCut_no {w : World} {lo hi : Nat} {A : Option Addr} {c : Nat} {xs : List Int} (room i : Int) (hA : Sl w lo hi 1 A xs.length (xs.map mkI)) (hhi : hi ≤ w.heap.size) (hx : xs.length ≤ 2000) (hh : RingI.has xs i = false) :
    Calls Try.prog 14 #[.agg #[.int .i64 room, .slice A xs.length c], .int .i64 i] w fun e w' => e = .returned (.tuple #[.agg #[.int .i64 room, .slice A xs.length c], .int .i64 0, .bool false]) ∧ Below w.heap.size w w' := by
  have hat := fun W (hW : Sl W lo hi 1 A xs.length (xs.map mkI)) (h : hi ≤ W.heap.size) => refAt_any (c := c) room i hW h (by unfold maxLen; omega)
  rw [RingI.got_no hh, hh] at hat
  have HAT := Lib.hid hat
  clear hat hh
  go_enter Try.func14, Try.ntmps14
  go_wp2_with fail
  refine (HAT.out _ ((hA.alloc hhi _).alloc (by simp; omega) _) (by simp; omega)).mono ?_
  rintro e w1 ⟨rfl, hb1⟩
  obtain ⟨hcc, hff⟩ := bcell hb1
  have hza := hb1.size
  simp at hcc hff hza
  go_wp2
  refine bodyPost_ret (v := .tuple #[.agg #[.int .i64 room, .slice A xs.length c], .int .i64 0, .bool false]) (by simp [results, Try.results14, go_sem, hcc, hza]) rfl ⟨rfl, ?_⟩
  exact ((((((Below.refl _ _).alloc (Nat.le_refl _) _).alloc (by simp) _).trans (hb1.mono (by simp; omega))).setCell (by simp) _).setCell (by simp) _)

set_option maxHeartbeats 2000000 in
theorem refCut_yes {w : World} {lo hi : Nat} {A : Option Addr} {c : Nat} {xs : List Int} (room : Int) (k : Nat) (hA : Sl w lo hi 1 A xs.length (xs.map mkI)) (hhi : hi ≤ w.heap.size) (hx : xs.length ≤ 2000) (hcap : xs.length ≤ c) (hc : c ≤ maxLen) (hk : k < xs.length) :
    Calls Try.prog 14 #[.agg #[.int .i64 room, .slice A xs.length c], .int .i64 (k : Int)] w fun e w' => ∃ A' c', e = .returned (.tuple #[.agg #[.int .i64 room, .slice A' (xs.length - 1) c'], .int .i64 xs[k], .bool true]) ∧ Sl w' w.heap.size w'.heap.size 1 A' (xs.length - 1) ((xs.eraseIdx k).map mkI) ∧ xs.length - 1 ≤ c' ∧ c' ≤ maxLen ∧ Below w.heap.size w w' := by
  have hat := fun W (hW : Sl W lo hi 1 A xs.length (xs.map mkI)) (h : hi ≤ W.heap.size) => refAt_any (c := c) room (k : Int) hW h (by unfold maxLen; omega)
  have hh : RingI.has xs (k : Int) = true := by unfold RingI.has; simp; omega
  have hg : RingI.got xs (k : Int) = xs[k] := by
    unfold RingI.got
    rw [if_pos (by omega), Int.toNat_natCast, List.getD_eq_getElem?_getD, List.getElem?_eq_getElem hk]; rfl
  rw [hh, hg] at hat
  have HAT := Lib.hid hat
  obtain ⟨i0, hi0, hz0, hz1, hz2⟩ := info_parts RingI.elem_info
  have hone : ∀ u ∈ xs.map mkI, u.oneCell' = true := by intro u hu; obtain ⟨z, _, rfl⟩ := List.mem_map.1 hu; rfl
  have HONE := Lib.hid hone
  obtain ⟨bl, off, rfl, _, _, _⟩ := hA.at1 hk
  have k0 : (0 : Int) ≤ (k : Int) := by omega
  have k1 : (k : Int) ≤ (c : Int) := by omega
  have k2 : (0 : Int) ≤ (k : Int) + 1 := by omega
  have k3 : (k : Int) + 1 ≤ (xs.length : Int) := by omega
  have hw1 : IntKind.i64.wrap ((k : Int) + 1) = (k : Int) + 1 := IntWalk.i64_in _ (by omega)
  have k4 : ((k : Int) + 1).toNat = k + 1 := by omega
  unfold maxLen at hc
  have hnn := Lib.hid (show k + (xs.length - (k + 1)) = xs.length - 1 from by omega)
  have HEND := Lib.hid (show (xs.eraseIdx k).map mkI = (xs.map mkI).take k ++ (xs.map mkI).drop (k + 1) from by rw [List.eraseIdx_eq_take_drop_succ, List.map_append, List.map_take, List.map_drop])
  clear hat hh hg hone
  generalize xs[k] = x at *
  by_cases hck : c = k + 1
  · subst hck
    have hn2 := Lib.hid (show k = xs.length - 1 from by omega)
    have e0 : xs.length - (k + 1) = 0 := by omega
    have k1b : (k : Int) ≤ (k : Int) + 1 := by omega
    go_enter Try.func14, Try.ntmps14
    go_wp2_with fail
    refine (HAT.out _ ((hA.alloc hhi _).alloc (by simp; omega) _) (by simp; omega)).mono ?_
    rintro e w1 ⟨rfl, hb1⟩
    obtain ⟨hcc, hff⟩ := bcell hb1
    have hza := hb1.size
    simp at hcc hff hza
    go_wp2_with fail
    have hS1 : Sl w1 lo hi 1 (some ⟨bl, off, none⟩) xs.length (xs.map mkI) := ((hA.alloc hhi _).alloc (by simp; omega) _).below hb1 (by simp; omega)
    have hT := hS1.take (k := k) (by omega)
    have hD := hS1.drop_end (k + 1) (by omega) (some ⟨bl, off, none⟩)
    rw [e0] at hD
    clear e0
    have hT1 := Lib.hid hT
    have hD1 := Lib.hid hD
    have hone1 : ∀ u ∈ (xs.map mkI).take k, u.oneCell' = true := fun u hu => HONE.out u (List.mem_of_mem_take hu)
    have hone2 : ∀ u ∈ (xs.map mkI).drop (k + 1), u.oneCell' = true := fun u hu => HONE.out u (List.mem_of_mem_drop hu)
    have HO1 := Lib.hid hone1
    have HO2 := Lib.hid hone2
    have hl0 : w1.cell? ⟨w.heap.size, 1, none⟩ = some (.slice (some ⟨bl, off, none⟩) xs.length (k + 1)) := by rw [hcc _ _ (by omega)]; simp [go_sem]
    have hf0 : w1.frozen? ⟨w.heap.size, 1, none⟩ = false := by rw [hff _ _ (by omega)]; simp [go_sem]
    have hl1 : ∀ o, (w1.alloc o).cell? ⟨w.heap.size, 1, none⟩ = some (.slice (some ⟨bl, off, none⟩) xs.length (k + 1)) := fun o => (World.cell?_alloc_lt _ _ _ (by simp; omega)).trans hl0
    clear hS1 hT hD hone1 hone2
    go_region_law (first
      | (refine step_append_any _ (by rfl) (.tmp 18) (.tmp 22) _ (by rfl) (w.heap.size + 2) 3 i0 _ 1 8 Try.underlying26 hi0 hz0 hz1 hz2 rfl (by omega) (.slice (some ⟨w1.heap.size, 0, none⟩) 0 0) 0 [] (by rfl)
           (by exact own_empty w1 (w.heap.size + 2) 3 1 hza) lo hi (some ⟨bl, off, none⟩) k (k + 1) _ (by rfl) (by exact hT1.out.alloc (by omega) _) HO1.out (by unfold maxLen; omega) (by omega) (by simp; omega) ?_
         intro v1 wA hown1 hg1 hat1
         have hbA : Below (w.heap.size + 2) w1 wA := (((Below.refl _ _).alloc (by omega) _).grown (B := w.heap.size + 2) (a := w1) (w := w1.alloc (.cells #[] 3)) ⟨hg1.os, hg1.tape, hg1.output, hg1.size, hg1.block⟩ (by simp; omega) (by simp [Value.ownBlock]; omega))
         have hlA := (hbA.cell (p := ⟨w.heap.size, 1, none⟩) (by simp)).trans hl0)
      | (refine step_append_any _ (by rfl) (.tmp 23) (.tmp 28) _ (by rfl) (w.heap.size + 2) 3 i0 _ 1 8 Try.underlying26 hi0 hz0 hz1 hz2 rfl (by omega) v1 (0 + k) _ (by rfl)
           (by exact hown1) lo hi (some ⟨bl, off, none⟩) 0 0 _ (by rfl) (by exact hD1.out.below hbA (by omega)) HO2.out (by unfold maxLen; omega) (by omega) (by have := hbA.size; omega) ?_
         intro v2 wB hown2 hg2 hat2
         obtain ⟨A2, c2, rfl, hnc2, hsl2⟩ := Sl.of_own hown2
         have hbB : Below (w.heap.size + 2) w1 wB := hbA.grown hg2 (by have := hbA.size; omega) (fun k hk => own_base hown1 hk)
         have hlB := (hbB.cell (p := ⟨w.heap.size, 1, none⟩) (by simp)).trans hl0
         have hfB := (hbB.frozen (p := ⟨w.heap.size, 1, none⟩) (by simp)).trans hf0))
    all_goals
      obtain ⟨hcB, hfB2⟩ := bcell hbB
      have hzB := hbB.size
      have hzB2 : w.heap.size + 1 + 1 ≤ wB.heap.size := by omega
      go_wp2
      refine bodyPost_ret (v := .tuple #[.agg #[.int .i64 room, .slice A2 k c2], .int .i64 x, .bool true]) (by simp [results, Try.results14, go_sem, hcB, hfB2, hcc, hff, hzB2]) rfl ⟨A2, c2, by rw [← hn2.out], ?_, by rw [← hn2.out]; have := (own_cap hown2).1; omega, (own_cap hown2).2, ?_⟩
      · rw [size_setCell, size_setCell, size_setCell, HEND.out, ← hn2.out]
        simp only [Nat.zero_add, Nat.add_zero, List.nil_append] at hsl2
        exact (((hsl2.setCell (p := ⟨w.heap.size, 1, none⟩) (by simp) _).setCell (p := ⟨w.heap.size + 1, 0, none⟩) (by simp) _).setCell (p := ⟨w.heap.size + 1, 1, none⟩) (by simp) _).wide (by omega) (Nat.le_refl _)
      · exact (((((((Below.refl _ _).alloc (Nat.le_refl _) _).alloc (by simp) _).trans (hb1.mono (by simp; omega))).trans (hbB.mono (by omega))).setCell (by simp) _).setCell (by simp) _).setCell (by simp) _
  · go_enter Try.func14, Try.ntmps14
    go_wp2_with fail
    refine (HAT.out _ ((hA.alloc hhi _).alloc (by simp; omega) _) (by simp; omega)).mono ?_
    rintro e w1 ⟨rfl, hb1⟩
    obtain ⟨hcc, hff⟩ := bcell hb1
    have hza := hb1.size
    simp at hcc hff hza
    go_wp2_with fail
    have hS1 : Sl w1 lo hi 1 (some ⟨bl, off, none⟩) xs.length (xs.map mkI) := ((hA.alloc hhi _).alloc (by simp; omega) _).below hb1 (by simp; omega)
    have hT := hS1.take (k := k) (by omega)
    have hD := hS1.drop_at (k + 1) (by omega)
    have hT1 := Lib.hid hT
    have hD1 := Lib.hid hD
    have hone1 : ∀ u ∈ (xs.map mkI).take k, u.oneCell' = true := fun u hu => HONE.out u (List.mem_of_mem_take hu)
    have hone2 : ∀ u ∈ (xs.map mkI).drop (k + 1), u.oneCell' = true := fun u hu => HONE.out u (List.mem_of_mem_drop hu)
    have HO1 := Lib.hid hone1
    have HO2 := Lib.hid hone2
    have hl0 : w1.cell? ⟨w.heap.size, 1, none⟩ = some (.slice (some ⟨bl, off, none⟩) xs.length c) := by rw [hcc _ _ (by omega)]; simp [go_sem]
    have hf0 : w1.frozen? ⟨w.heap.size, 1, none⟩ = false := by rw [hff _ _ (by omega)]; simp [go_sem]
    have hl1 : ∀ o, (w1.alloc o).cell? ⟨w.heap.size, 1, none⟩ = some (.slice (some ⟨bl, off, none⟩) xs.length c) := fun o => (World.cell?_alloc_lt _ _ _ (by simp; omega)).trans hl0
    clear hS1 hT hD hone1 hone2
    go_region_law (first
      | (refine step_append_any _ (by rfl) (.tmp 18) (.tmp 22) _ (by rfl) (w.heap.size + 2) 3 i0 _ 1 8 Try.underlying26 hi0 hz0 hz1 hz2 rfl (by omega) (.slice (some ⟨w1.heap.size, 0, none⟩) 0 0) 0 [] (by rfl)
           (by exact own_empty w1 (w.heap.size + 2) 3 1 hza) lo hi (some ⟨bl, off, none⟩) k c _ (by rfl) (by exact hT1.out.alloc (by omega) _) HO1.out (by unfold maxLen; omega) (by omega) (by simp; omega) ?_
         intro v1 wA hown1 hg1 hat1
         have hbA : Below (w.heap.size + 2) w1 wA := (((Below.refl _ _).alloc (by omega) _).grown (B := w.heap.size + 2) (a := w1) (w := w1.alloc (.cells #[] 3)) ⟨hg1.os, hg1.tape, hg1.output, hg1.size, hg1.block⟩ (by simp; omega) (by simp [Value.ownBlock]; omega))
         have hlA := (hbA.cell (p := ⟨w.heap.size, 1, none⟩) (by simp)).trans hl0)
      | (refine step_append_any _ (by rfl) (.tmp 23) (.tmp 28) _ (by rfl) (w.heap.size + 2) 3 i0 _ 1 8 Try.underlying26 hi0 hz0 hz1 hz2 rfl (by omega) v1 (0 + k) _ (by rfl)
           (by exact hown1) lo hi (some ⟨bl, off + (k + 1), none⟩) (xs.length - (k + 1)) (c - (k + 1)) _ (by rfl) (by exact hD1.out.below hbA (by omega)) HO2.out (by unfold maxLen; omega) (by omega) (by have := hbA.size; omega) ?_
         intro v2 wB hown2 hg2 hat2
         obtain ⟨A2, c2, rfl, hnc2, hsl2⟩ := Sl.of_own hown2
         have hbB : Below (w.heap.size + 2) w1 wB := hbA.grown hg2 (by have := hbA.size; omega) (fun k hk => own_base hown1 hk)
         have hlB := (hbB.cell (p := ⟨w.heap.size, 1, none⟩) (by simp)).trans hl0
         have hfB := (hbB.frozen (p := ⟨w.heap.size, 1, none⟩) (by simp)).trans hf0))
    all_goals
      obtain ⟨hcB, hfB2⟩ := bcell hbB
      have hzB := hbB.size
      have hzB2 : w.heap.size + 1 + 1 ≤ wB.heap.size := by omega
      go_wp2
      refine bodyPost_ret (v := .tuple #[.agg #[.int .i64 room, .slice A2 (k + (xs.length - (k + 1))) c2], .int .i64 x, .bool true]) (by simp [results, Try.results14, go_sem, hcB, hfB2, hcc, hff, hzB2]) rfl ⟨A2, c2, by rw [hnn.out], ?_, by rw [← hnn.out]; have := (own_cap hown2).1; omega, (own_cap hown2).2, ?_⟩
      · rw [size_setCell, size_setCell, size_setCell, HEND.out, ← hnn.out]
        simp only [Nat.zero_add, List.nil_append] at hsl2
        exact (((hsl2.setCell (p := ⟨w.heap.size, 1, none⟩) (by simp) _).setCell (p := ⟨w.heap.size + 1, 0, none⟩) (by simp) _).setCell (p := ⟨w.heap.size + 1, 1, none⟩) (by simp) _).wide (by omega) (Nat.le_refl _)
      · exact (((((((Below.refl _ _).alloc (Nat.le_refl _) _).alloc (by simp) _).trans (hb1.mono (by simp; omega))).trans (hbB.mono (by omega))).setCell (by simp) _).setCell (by simp) _).setCell (by simp) _
end Go.Proofs.Ytmbnnpmmbjdodaa
