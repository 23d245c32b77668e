/- Layer 9: the walk of LinkEpochs. Conditions: the slice of acts lies in memory that came in. -/
import Derived.Test.YtblaanohidldpaaLinkTwo
import Derived.Deep.DeepCutAuto
import Derived.Deep.CutBlock
namespace Go.Proofs.Ytblaanohidldpaa.Link
set_option linter.unusedSimpArgs false
set_option linter.unusedVariables false
open Go.RowKit
theorem sent_epoch (x : LE) (b : ByteArray) : (x.sent b).epoch = x.epoch := by unfold LE.sent; split <;> rfl
theorem ticked_epoch (x : LE) : x.ticked.epoch = x.epoch := by unfold LE.ticked; split <;> (try split) <;> rfl
theorem taken_epoch (x : LE) (f : Fr) : (x.taken f).epoch = x.epoch := by
  unfold LE.taken
  split
  · split
    · split
      · exact LE.acked_epoch f
      · exact LE.acked_epoch f
    · exact LE.acked_epoch f
  · rfl
theorem ActAt.keep {w w' : World} {g o : Nat} {a : Act9} (h : ActAt w g o a) (hb : w'.heap[g]? = w.heap[g]?) : ActAt w' g o a :=
  ⟨(World.cell?_of_block (a := ⟨g, o, none⟩) hb).trans h.c0, (World.cell?_of_block (a := ⟨g, o + 1, none⟩) hb).trans h.c1, (World.cell?_of_block (a := ⟨g, o + 2, none⟩) hb).trans h.c2, (World.cell?_of_block (a := ⟨g, o + 3, none⟩) hb).trans h.c3, (World.cell?_of_block (a := ⟨g, o + 4, none⟩) hb).trans h.c4,
    (World.cell?_of_block (a := ⟨g, o + 5, none⟩) hb).trans h.c5, (World.cell?_of_block (a := ⟨g, o + 6, none⟩) hb).trans h.c6, (World.cell?_of_block (a := ⟨g, o + 7, none⟩) hb).trans h.c7, (World.cell?_of_block (a := ⟨g, o + 8, none⟩) hb).trans h.c8⟩
theorem goes_short {x : LE} (hx : x.Ok) : x.goes.length ≤ 1000 := by
  have h1 := hx.w8
  unfold LE.goes
  rw [List.length_append]
  unfold LE.datas LE.acks LE.most
  rw [List.length_map, List.length_range']
  split <;> simp <;> omega
structure EpSt (w : World) (epoch : Int) (p q : Nat) (wr : World) : Prop where
  all : ∃ x F G, Duo w.heap.size wr p q F G x x ∧ x.epoch = epoch ∧ Below w.heap.size w wr
theorem EpSt.mk' {w wr : World} {epoch : Int} {p q : Nat} {x : LE} {F G : List Nat} (h1 : Duo w.heap.size wr p q F G x x) (h2 : x.epoch = epoch) (h3 : Below w.heap.size w wr) : EpSt w epoch p q wr := ⟨x, F, G, h1, h2, h3⟩
set_option maxRecDepth 100000 in
set_option maxHeartbeats 8000000 in
theorem epochs_walk (epoch first window queue wait : Int) (hu : u first = first) (A : Option Addr) (c : Nat) (l : List Act9) (fk fe fs fa : Int) (fb : ByteArray) (w : World) (hA : Sl w 0 w.heap.size 9 A l.length (l.flatMap Act9.cells)) (hy : l.length ≤ maxLen) :
    Calls Try.prog 7 #[.int .i64 epoch, .int .u64 first, .int .i64 window, .int .i64 queue, .int .i64 wait, .slice A l.length c, .agg #[.int .i64 fk, .int .i64 fe, .int .u64 fs, .int .u64 fa, .string fb]] w fun e w' => e = .returned (.bool true) ∧ Below w.heap.size w w' := by
  have hy' := hy
  unfold maxLen at hy
  have HU := Lib.hid hu
  clear hu
  go_enter Try.func7, Try.ntmps7
  go_wp2_with fail
  have hb0 : Below w.heap.size w (w.alloc (.cells #[.int .i64 fk, .int .i64 fe, .int .u64 fs, .int .u64 fa, .string fb] 42)) := (Below.refl _ _).alloc (Nat.le_refl _) _
  have hx0 : (w.alloc (.cells #[.int .i64 fk, .int .i64 fe, .int .u64 fs, .int .u64 fa, .string fb] 42)).heap[w.heap.size]? = some (.cells #[.int .i64 fk, .int .i64 fe, .int .u64 fs, .int .u64 fa, .string fb] 42 (0, 0)) := heap_alloc_new w _
  have HB0 := Lib.hid hb0
  have HX0 := Lib.hid hx0
  clear hb0 hx0
  refine (new_at epoch first window queue wait HU.out _).mono ?_
  rintro e w1 ⟨p, rfl, hp, h1, hb1⟩
  go_wp2_with fail
  refine (new_at epoch first window queue wait HU.out _).mono ?_
  rintro e w2 ⟨q, rfl, hq, h2, hb2⟩
  simp only [World.size_alloc] at hp
  have hs1 := hb1.size
  have hpl := h1.lt h1.mem
  have hT : Duo w.heap.size w2 p q [p] [q] (new epoch first window queue wait) (new epoch first window queue wait) := ⟨h1.after hb2, h2, by simp; omega, by simp; omega, by simp; omega⟩
  have hbw : Below w.heap.size w w2 := (HB0.out.trans (hb1.mono HB0.out.size)).trans (hb2.mono (Nat.le_trans HB0.out.size hs1))
  have hX2 : w2.heap[w.heap.size]? = _ := ((hb2.block w.heap.size (by omega)).trans (hb1.block w.heap.size (by simp))).trans HX0.out
  have hep : (new epoch first window queue wait).epoch = epoch := rfl
  have HEP := Lib.hid hep
  generalize new epoch first window queue wait = x0 at *
  have HT := Lib.hid hT
  clear h1 h2 hb1 hb2 hep hs1 hpl hT hp hq
  go_wp2_with fail
  refine (awake_any _).mono ?_
  rintro e w3 ⟨rfl, hb3⟩
  have hbw3 := hbw.trans (hb3.mono hbw.size)
  have hA3 := hA.below hbw3 (Nat.le_refl _)
  go_wp2_with fail
  refine (few_any hA3 hy').mono ?_
  rintro e w4 ⟨⟨b, rfl, hfew⟩, rfl⟩
  have HFEW := Lib.hid hfew
  have HX3 := Lib.hid ((hb3.block w.heap.size (lt_of_block hX2)).trans hX2)
  have HT3 := Lib.hid (HT.out.after hb3)
  clear hfew hX2 hb3 hA3
  cases b
  · go_wp2_with fail
    refine (awake_any _).mono ?_
    rintro e w4 ⟨rfl, hb4⟩
    go_wp2_with fail
    go_ret
    exact ⟨rfl, hbw3.trans (hb4.mono hbw3.size)⟩
  · obtain ⟨h80, hshort⟩ := HFEW.out rfl
    clear hshort
    have x4 := cell_of_block HX3.out 4
    simp at x4
    by_cases hfb : 70 < fb.size
    · have hd : decide (70 < (fb.size : Int)) = true := by simp; omega
      go_wp2_with fail
      refine (awake_any _).mono ?_
      rintro e w4 ⟨rfl, hb4⟩
      go_wp2_with fail
      go_ret
      exact ⟨rfl, hbw3.trans (hb4.mono hbw3.size)⟩
    · have hd : decide (70 < (fb.size : Int)) = false := by simp; omega
      have HES := Lib.hid (EpSt.mk' HT3.out HEP.out hbw3)
      clear hfb
      go_wp2_with fail
      clear x4 hd
      go_loopw [17] (fun i wr => ∃ k : Nat, k ≤ l.length ∧ i = .int .i64 (k : Int) ∧ EpSt w epoch p q wr) (fun i _ => l.length - (intOf i).toNat)
      case atStart => exact ⟨0, Nat.zero_le _, rfl, HES.out⟩
      case round =>
        obtain ⟨k, hk, rfl, hr⟩ := hrel
        obtain ⟨x, F, G, hd, hxe, hb⟩ := hr.all
        have HD := Lib.hid hd
        have HXE := Lib.hid hxe
        clear hr hd hxe
        by_cases hlt : k < l.length
        · have hA1 := hA.below hb (Nat.le_refl _)
          obtain ⟨g, o, rfl, _, hgl, hat⟩ := acts_at hA1 hlt
          have i0' : (0 : Int) ≤ (k : Int) := by omega
          have i1 : (k : Int) < (l.length : Int) := by omega
          have hbs2 := hb.size
          have HAT := Lib.hid hat
          clear hat
          generalize l[k] = a at *
          obtain ⟨aK, aN, aside, aS, ⟨ek, ee, es, ea, eb⟩⟩ := a
          obtain ⟨c0, _, _, c3, c4, c5, c6, c7, c8⟩ := HAT.out
          simp only at c0 c3 c4 c5 c6 c7 c8
          have hbx : (wr.alloc (.cells #[.int .i64 ek, .int .i64 ee, .int .u64 es, .int .u64 ea, .string eb] 42)).heap[wr.heap.size]? = some (.cells #[.int .i64 ek, .int .i64 ee, .int .u64 es, .int .u64 ea, .string eb] 42 (0, 0)) := heap_alloc_new wr _
          have HBX := Lib.hid hbx
          have HDA := Lib.hid (HD.out.after ((Below.refl wr.heap.size wr).alloc (Nat.le_refl _) (.cells #[.int .i64 ek, .int .i64 ee, .int .u64 es, .int .u64 ea, .string eb] 42)))
          have HBA := Lib.hid (hb.alloc hb.size (.cells #[.int .i64 ek, .int .i64 ee, .int .u64 es, .int .u64 ea, .string eb] 42))
          clear hbx
          go_upto_if 77 with fail
          go_cut [] (fun wx => (Duo w.heap.size wx p q F G x x ∧ Below w.heap.size w wx) ∧ wx.heap[wr.heap.size]? = some (.cells #[.int .i64 ek, .int .i64 ee, .int .u64 es, .int .u64 ea, .string eb] 42 (0, 0)) ∧ ActAt wx g (o + k * 9) ⟨aK, aN, aside, aS, ⟨ek, ee, es, ea, eb⟩⟩ ∧ wr.heap.size < wx.heap.size)
          case first =>
            by_cases he : ee = epoch
            · subst he
              go_wp2_with fail
              go_meet
              exact ⟨⟨HDA.out, HBA.out⟩, HBX.out, HAT.out.keep (Below.heap_alloc _ _ _ (by omega)), by simp⟩
            · have q1 : (ee != epoch) = true := bne_iff_ne.2 he
              have hfit : x.fits ⟨ek, ee, es, ea, eb⟩ = false := by simp [LE.fits, HXE.out, he]
              have HFIT := Lib.hid hfit
              clear hfit he
              go_wp2_with fail
              refine (take_no HDA.out.l ⟨ek, ee, es, ea, eb⟩ HFIT.out).mono ?_
              rintro e w5 ⟨rfl, hb5⟩
              have hd5 := HDA.out.after hb5
              have hb5' := HBA.out.trans (hb5.mono HBA.out.size)
              have hx5 := (hb5.block wr.heap.size (by simp)).trans HBX.out
              have ha5 := HAT.out.keep ((hb5.block g (by simp; omega)).trans (Below.heap_alloc _ _ _ (by omega)))
              have hs5 := hb5.size
              simp only [World.size_alloc] at hs5
              have HALL := Lib.hid (show (Duo w.heap.size w5 p q F G x x ∧ Below w.heap.size w w5) ∧ _ ∧ _ ∧ wr.heap.size < w5.heap.size from ⟨⟨hd5, hb5'⟩, hx5, ha5, by omega⟩)
              clear hd5 hb5' hx5 ha5
              go_wp2_with fail
              go_meet
              exact HALL.out
          case rest =>
            obtain ⟨⟨hd2, hb2⟩, hbx, hat2, hsz2⟩ := hcut
            have HD2 := Lib.hid hd2
            have HES2 := Lib.hid (EpSt.mk' hd2 HXE.out hb2)
            have hnF : wr.heap.size ∉ F := fun hm => by have := HD.out.l.lt hm; omega
            have hnG : wr.heap.size ∉ G := fun hm => by have := HD.out.r.lt hm; omega
            have b0 := cell_of_block hbx 0
            have b1 := cell_of_block hbx 1
            have b2 := cell_of_block hbx 2
            have b3 := cell_of_block hbx 3
            have b4 := cell_of_block hbx 4
            simp at b0 b1 b2 b3 b4
            have HBX2 := Lib.hid hbx
            clear hd2 c0 c3 c4 c5 c6 c7 c8 hbx
            have HAT2 := Lib.hid hat2
            obtain ⟨c0, _, _, c3, c4, c5, c6, c7, c8⟩ := hat2
            simp only at c0 c3 c4 c5 c6 c7 c8
            go_upto_block 2 with fail
            go_cut [] (fun wx => EpSt w epoch p q wx)
            case first =>
              have hB2 := hb2.size
              by_cases hK0 : aK = 0
              · subst hK0
                go_wp2_with fail
                go_region_held3 (fun w' => w'.cell? ⟨g, o + k * 9 + 3, none⟩ = some (.string aS)) (first | exact c3 | exact d3 | exact e3) ((go_at_call 11; first | ((with_reducible refine (send_any HD2.out.l.drew aS).mono ?_); rintro e w6 ⟨rfl, F6, hx6, ht6⟩; have hD6 := HD2.out.drew.left hB2 hx6 ht6; have d3 := (ht6.kept.cell (p := ⟨g, o + k * 9 + 3, none⟩) (Nat.lt_of_lt_of_le hgl hB2) (fun hm => by have := HD2.out.newl g hm; omega)).trans c3; have hs6 := ht6.kept.size; clear hx6) | ((refine (send_any hD6.r aS).mono ?_); rintro e w7 ⟨rfl, F7, hx7, ht7⟩; have hD7 := hD6.right (Nat.le_trans hB2 hs6) hx7 ht7; have e3 := (ht7.kept.cell (p := ⟨g, o + k * 9 + 3, none⟩) (Nat.lt_of_lt_of_le (Nat.lt_of_lt_of_le hgl hB2) hs6) (fun hm => by have := hD6.newr g hm; omega)).trans d3)))
                have hb7 : Below w.heap.size w w7 := ((below_drewN hb2 1).trans (HD2.out.drew.belowl hB2 ht6)).trans (hD6.belowr (Nat.le_trans hB2 hs6) ht7)
                have HES7 := Lib.hid (EpSt.mk' hD7 ((sent_epoch _ _).trans HXE.out) hb7)
                clear hx7 ht7 hD7 hb7 ht6 hD6
                go_wp2_with fail
                go_meet
                exact HES7.out
              · have q0 : (aK == 0) = false := beq_eq_false_iff_ne.2 hK0
                by_cases hK1 : aK = 1
                · subst hK1
                  go_wp2_with fail
                  refine (out_any HD2.out.l).mono ?_
                  rintro e w6 ⟨A6, c6, G6, rfl, hv6, hG6, hx6, ht6⟩
                  have hD6 := HD2.out.left hB2 hx6 ht6
                  have hb6 := hb2.trans (HD2.out.belowl hB2 ht6)
                  have HV6 := Lib.hid hv6
                  clear hv6
                  go_wp2_with fail
                  refine (out_any hD6.r).mono ?_
                  rintro e w7 ⟨A7, c7, G7, rfl, hv7, hG7, hx7, ht7⟩
                  have hD7 := hD6.right hb6.size hx7 ht7
                  have hb7 := hb6.trans (hD6.belowr hb6.size ht7)
                  have hv67 := HV6.out.kept ht7.kept (fun j hj hm => by have := hG6 j hj; have := HD2.out.r.lt hm; omega)
                  have HV67 := Lib.hid hv67
                  have HV7 := Lib.hid hv7
                  clear hv67 hv7
                  go_wp2_with fail
                  refine (same_is HV67.out HV7.out (goes_short HD2.out.l.ok)).mono ?_
                  rintro e w8 ⟨rfl, n8, rfl⟩
                  go_wp2_with fail
                  go_meet
                  exact EpSt.mk' (hD7.drewN n8) HXE.out (below_drewN hb7 n8)
                · have q1 : (aK == 1) = false := beq_eq_false_iff_ne.2 hK1
                  by_cases hK2 : aK = 2
                  · subst hK2
                    go_wp2_with fail
                    refine (tick_any HD2.out.l).mono ?_
                    rintro e w6 ⟨rfl, hx6, ht6⟩
                    have hD6 := HD2.out.left hB2 hx6 ht6
                    have hb6 := hb2.trans (HD2.out.belowl hB2 ht6)
                    go_wp2_with fail
                    refine (tick_any hD6.r).mono ?_
                    rintro e w7 ⟨rfl, hx7, ht7⟩
                    have hD7 := hD6.right hb6.size hx7 ht7
                    have hb7 := hb6.trans (hD6.belowr hb6.size ht7)
                    go_wp2_with fail
                    go_meet
                    exact EpSt.mk' hD7 ((ticked_epoch _).trans HXE.out) hb7
                  · have q2 : (aK == 2) = false := beq_eq_false_iff_ne.2 hK2
                    by_cases he : ee = epoch
                    · subst he
                      go_wp2_with fail
                      refine (take_any HD2.out.l ⟨ek, ee, es, ea, eb⟩).mono ?_
                      rintro e w6 ⟨rfl, hx6, ht6⟩
                      have hD6 := HD2.out.left hB2 hx6 ht6
                      have hb6 := hb2.trans (HD2.out.belowl hB2 ht6)
                      have hbx6 := (ht6.kept.block wr.heap.size hsz2 hnF).trans HBX2.out
                      clear b0 b1 b2 b3 b4
                      have b0 := cell_of_block hbx6 0
                      have b1 := cell_of_block hbx6 1
                      have b2 := cell_of_block hbx6 2
                      have b3 := cell_of_block hbx6 3
                      have b4 := cell_of_block hbx6 4
                      simp at b0 b1 b2 b3 b4
                      go_wp2_with fail
                      refine (take_any hD6.r ⟨ek, ee, es, ea, eb⟩).mono ?_
                      rintro e w7 ⟨rfl, hx7, ht7⟩
                      have hD7 := hD6.right hb6.size hx7 ht7
                      have hb7 := hb6.trans (hD6.belowr hb6.size ht7)
                      have HES7 := Lib.hid (EpSt.mk' hD7 ((taken_epoch _ _).trans HXE.out) hb7)
                      generalize x.told ⟨ek, ee, es, ea, eb⟩ = td at *
                      generalize x.isNext ⟨ek, ee, es, ea, eb⟩ = nx at *
                      clear hx6 ht6 hD6 hb6 hx7 ht7 hD7 hb7 hbx6
                      go_wp2_with fail
                      go_meet
                      exact HES7.out
                    · have q3 : (ee == epoch) = false := beq_eq_false_iff_ne.2 he
                      clear he
                      go_wp2_with fail
                      go_meet
                      exact HES2.out
            case rest =>
              obtain ⟨x3, F3, G3, hd3, hxe3, hb3⟩ := hcut.all
              have HC := Lib.hid hcut
              have HXE3 := Lib.hid hxe3
              clear hxe3 hcut b0 b1 b2 b3 b4 c0 c3 c4 c5 c6 c7 c8
              go_wp2_with fail
              refine (numbers_any hd3.l).mono ?_
              rintro e w6 ⟨rfl, n6, rfl⟩
              go_wp2_with fail
              refine (numbers_any (hd3.drewN n6).r).mono ?_
              rintro e w7 ⟨rfl, n7, rfl⟩
              go_wp2_with fail
              refine (waiting_any (hd3.drewN (n6 + n7)).l).mono ?_
              rintro e w8 ⟨rfl, rfl⟩
              go_wp2_with fail
              refine (waiting_any (hd3.drewN (n6 + n7)).r).mono ?_
              rintro e w8 ⟨rfl, rfl⟩
              go_wp2_with fail
              go_roundw
              case rel => exact ⟨k + 1, hlt, by go_num, EpSt.mk' (hd3.drewN (n6 + n7)) HXE3.out (below_drewN hb3 (n6 + n7))⟩
              case measure => simp [intOf]; omega
        · obtain rfl : k = l.length := by omega
          go_wp2_with fail
          go_ret
          exact ⟨rfl, hb⟩
end Go.Proofs.Ytblaanohidldpaa.Link
