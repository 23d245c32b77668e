/- Layer 9: the walk of LinkWaits. Conditions: the slice of bodies lies in memory that came in. -/
import Derived.Test.YtblaanohidldpaaLinkAwake
import Derived.Test.YtblaanohidldpaaSlices
import Derived.Deep.DeepCutAuto
import Derived.Deep.CutBlock
namespace Go.Proofs.Ytblaanohidldpaa.Link
open Go.RowKit
theorem u_wf {a : Int} (h : (Lit.int .u64 a).wf = true) : u a = a := by
  rw [u_eq]
  simp [Lit.wf, IntKind.min, IntKind.max, IntKind.bits, IntKind.signed] at h
  omega
/-- an end to which nothing came yet -/
structure Fresh (fst : Int) (wi q : Nat) (x : LE) : Prop where
  hq : x.queue = q
  hwin : x.window = wi
  hfirst : x.first = fst
  hwant : x.want = fst
  hout : x.out = 0
  howes : x.owes = false
theorem Fresh.sent {fst : Int} {wi q : Nat} {x : LE} (h : Fresh fst wi q x) (b : ByteArray) : Fresh fst wi q (x.sent b) := by
  unfold LE.sent
  split
  · exact ⟨h.hq, h.hwin, h.hfirst, h.hwant, h.hout, h.howes⟩
  · exact h
theorem Fresh.goes {fst : Int} {wi q : Nat} {x : LE} (h : Fresh fst wi q x) : x.goes.length = min wi x.bodies.length := by
  unfold LE.goes LE.datas LE.acks
  rw [if_neg (by rw [h.howes]; simp), List.append_nil, List.length_map, List.length_range', h.hout, LE.most, h.hwin]
  omega
theorem send_cases (x : LE) (b : ByteArray) : (64 < b.size ∧ x.sendE b = 90 ∧ (x.sent b).bodies.length = x.bodies.length) ∨ (b.size ≤ 64 ∧ x.queue ≤ x.bodies.length ∧ x.sendE b = 91 ∧ (x.sent b).bodies.length = x.bodies.length) ∨
    (b.size ≤ 64 ∧ x.bodies.length < x.queue ∧ x.sendE b = 0 ∧ (x.sent b).bodies.length = x.bodies.length + 1) := by
  unfold LE.sendE LE.sent
  by_cases h1 : 64 < b.size
  · exact .inl ⟨h1, if_pos h1, by rw [if_neg (by omega)]⟩
  · by_cases h2 : x.queue ≤ x.bodies.length
    · exact .inr (.inl ⟨by omega, h2, by rw [if_neg h1, if_pos h2], by rw [if_neg (by omega)]⟩)
    · exact .inr (.inr ⟨by omega, by omega, by rw [if_neg h1, if_neg h2], by rw [if_pos (by omega)]; simp⟩)
set_option maxRecDepth 100000 in
set_option maxHeartbeats 8000000 in
theorem waits_walk (epoch first window queue wait : Int) (hu : u first = first) (A : Option Addr) (c : Nat) (l : List ByteArray) (w : World) (hA : Sl w 0 w.heap.size 1 A l.length (l.map .string)) (hy : l.length ≤ maxLen) (hbs : ∀ b ∈ l, b.size ≤ maxLen) :
    Calls Try.prog 3 #[.int .i64 epoch, .int .u64 first, .int .i64 window, .int .i64 queue, .int .i64 wait, .slice A l.length c] w fun e w' => e = .returned (.bool true) ∧ Below w.heap.size w w' := by
  unfold maxLen at hy
  have HU := Lib.hid hu
  clear hu
  by_cases h80 : l.length ≤ 80
  · have hd1 : decide (80 < (l.length : Int)) = false := by simp; omega
    have hq0 : ((clampN queue 0 64 : Nat) : Int) = min (max queue 0) 64 := by unfold clampN; omega
    have hw0 : ((clampN window 1 8 : Nat) : Int) = min (max window 1) 8 := by unfold clampN; omega
    have HQ := Lib.hid hq0
    have HW := Lib.hid hw0
    have hq64 : clampN queue 0 64 ≤ 64 := by omega
    have hw8 : clampN window 1 8 ≤ 8 := by omega
    clear hq0 hw0
    go_enter Try.func3, Try.ntmps3
    go_wp2_with fail
    refine (new_any epoch first window queue wait HU.out _).mono ?_
    rintro e w1 ⟨rfl, h1, hb1⟩
    have hfr : Fresh first (clampN window 1 8) (clampN queue 0 64) (new epoch first window queue wait) := ⟨rfl, rfl, rfl, rfl, rfl, rfl⟩
    have hlen0 : (new epoch first window queue wait).bodies.length = 0 := rfl
    have HL0 := Lib.hid hlen0
    generalize new epoch first window queue wait = x0 at *
    generalize clampN queue 0 64 = q at *
    generalize clampN window 1 8 = wi at *
    clear hlen0
    go_wp2_with fail
    refine (awake_any _).mono ?_
    rintro e w2 ⟨rfl, hb2⟩
    have h2 := h1.after hb2
    have hbw := hb1.trans (hb2.mono hb1.size)
    have HF := Lib.hid (show ∀ k, k ∈ [w.heap.size] → w.heap.size ≤ k from by simp)
    clear h1
    go_upto_region 4 with fail
    go_cut [14, 15] (fun s14 s15 wx => s14 = .int .i64 0 ∧ s15 = .int .i64 (q : Int) ∧ wx = w2)
    case first =>
      go_wp2_with fail
      all_goals (go_meet; exact ⟨rfl, by rw [HQ.out]; congr 1; omega, rfl⟩)
    case rest =>
      obtain ⟨rfl, rfl, rfl⟩ := hcut
      go_wp2_with fail
      go_loopw [14, 16] (fun n i wr => ∃ k x F, k ≤ l.length ∧ i = .int .i64 (k : Int) ∧ n = .int .i64 (x.bodies.length : Int) ∧ EndIs wr w.heap.size F x ∧ Fresh first wi q x ∧ Below w.heap.size w wr ∧ ∀ k, k ∈ F → w.heap.size ≤ k) (fun _ i _ => l.length - (intOf i).toNat)
      case atStart => exact ⟨0, x0, _, Nat.zero_le _, rfl, by rw [HL0.out]; rfl, h2, hfr, hbw, HF.out⟩
      case round =>
        obtain ⟨k, x, F, hk, rfl, rfl, hx, hf, hb, hF⟩ := hrel
        have hxq := hf.hq
        have hxl := hx.ok.len
        have hxb : x.bodies.length ≤ 64 := by omega
        have HFR := Lib.hid hf
        have HFF := Lib.hid hF
        by_cases hlt : k < l.length
        · have hA1 := hA.below hb (Nat.le_refl _)
          obtain ⟨b1, o1, rfl, _, hbl, hc1⟩ := hA1.at1 hlt
          rw [List.getElem?_map, List.getElem?_eq_getElem hlt] at hc1
          have hsz := hbs l[k] (List.getElem_mem hlt)
          generalize l[k] = s at *
          simp only [Option.map_some] at hc1
          have i0' : (0 : Int) ≤ (k : Int) := by omega
          have i1 : (k : Int) < (l.length : Int) := by omega
          have hbs2 := hb.size
          clear hf hF
          by_cases h200 : 200 < s.size
          · have hd2 : decide (200 < (s.size : Int)) = true := by simp; omega
            go_wp2_with fail
            go_ret
            exact ⟨rfl, hb⟩
          · have hd2 : decide (200 < (s.size : Int)) = false := by simp; omega
            have hsnd := fun W (hW : EndIs W w.heap.size F x) => send_any hW s
            have HS := Lib.hid hsnd
            have hfs := HFR.out.sent s
            have hfst := Lib.hid hfs.hfirst
            have hwnt := Lib.hid hfs.hwant
            have HFS := Lib.hid hfs
            clear hsnd hfs h200
            rcases send_cases x s with ⟨z1, z2, z3⟩ | ⟨z1, z0, z2, z3⟩ | ⟨z1, z0, z2, z3⟩
            · have Z2 := Lib.hid z2
              have Z3 := Lib.hid z3
              clear z2 z3
              have hd3 : decide (64 < (s.size : Int)) = true := by simp; omega
              clear hxq
              go_wp2_with fail
              refine (HS.out _ hx).mono ?_
              rintro e w4 ⟨rfl, F4, hx4, ht4⟩
              rw [Z2.out]
              obtain ⟨u1, u2⟩ := ht4.below (B := w.heap.size) hbs2 HFF.out
              go_wp2_with fail
              refine (numbers_any hx4).mono ?_
              rintro e w5 ⟨rfl, n5, rfl⟩
              rw [hfst.out, hwnt.out]
              go_wp2_with fail
              refine (waiting_any (hx4.drewN n5)).mono ?_
              rintro e w6 ⟨rfl, rfl⟩
              rw [Z3.out]
              go_wp2_with fail
              go_roundw
              case rel => exact ⟨k + 1, x.sent s, F4, hlt, by go_num, by rw [Z3.out], hx4.drewN n5, HFS.out, below_drewN (hb.trans u1) n5, u2⟩
              case measure => simp [intOf]; omega
            · have Z2 := Lib.hid z2
              have Z3 := Lib.hid z3
              clear z2 z3
              have hd3 : decide (64 < (s.size : Int)) = false := by simp; omega
              have hd4 : decide (q ≤ x.bodies.length) = true := by simp; omega
              clear hxq
              go_wp2_with fail
              refine (HS.out _ hx).mono ?_
              rintro e w4 ⟨rfl, F4, hx4, ht4⟩
              rw [Z2.out]
              obtain ⟨u1, u2⟩ := ht4.below (B := w.heap.size) hbs2 HFF.out
              go_wp2_with fail
              refine (numbers_any hx4).mono ?_
              rintro e w5 ⟨rfl, n5, rfl⟩
              rw [hfst.out, hwnt.out]
              go_wp2_with fail
              refine (waiting_any (hx4.drewN n5)).mono ?_
              rintro e w6 ⟨rfl, rfl⟩
              rw [Z3.out]
              go_wp2_with fail
              go_roundw
              case rel => exact ⟨k + 1, x.sent s, F4, hlt, by go_num, by rw [Z3.out], hx4.drewN n5, HFS.out, below_drewN (hb.trans u1) n5, u2⟩
              case measure => simp [intOf]; omega
            · have Z2 := Lib.hid z2
              have Z3 := Lib.hid z3
              clear z2 z3
              have hd3 : decide (64 < (s.size : Int)) = false := by simp; omega
              have hd4 : decide (q ≤ x.bodies.length) = false := by simp; omega
              clear hxq
              go_wp2_with fail
              refine (HS.out _ hx).mono ?_
              rintro e w4 ⟨rfl, F4, hx4, ht4⟩
              rw [Z2.out]
              obtain ⟨u1, u2⟩ := ht4.below (B := w.heap.size) hbs2 HFF.out
              go_wp2_with fail
              refine (numbers_any hx4).mono ?_
              rintro e w5 ⟨rfl, n5, rfl⟩
              rw [hfst.out, hwnt.out]
              go_wp2_with fail
              refine (waiting_any (hx4.drewN n5)).mono ?_
              rintro e w6 ⟨rfl, rfl⟩
              rw [Z3.out, show ((x.bodies.length + 1 : Nat) : Int) = (x.bodies.length : Int) + 1 from by omega]
              go_wp2_with fail
              go_roundw
              case rel => exact ⟨k + 1, x.sent s, F4, hlt, by go_num, by rw [Z3.out]; go_num, hx4.drewN n5, HFS.out, below_drewN (hb.trans u1) n5, u2⟩
              case measure => simp [intOf]; omega
        · obtain rfl : k = l.length := by omega
          have hgl := hf.goes
          have HGL := Lib.hid hgl
          clear hgl hf hF
          go_wp2_with fail
          refine (out_any hx).mono ?_
          rintro e w4 ⟨A4, c4, G4, rfl, hv4, hG4, hx4, ht4⟩
          rw [HGL.out]
          obtain ⟨u1, u2⟩ := ht4.below (B := w.heap.size) hb.size HFF.out
          have HWW := HW
          go_wp2_with fail
          all_goals
            go_ret
            exact ⟨ret_bool (by rw [beq_iff_eq]; have := HW.out; omega), hb.trans u1⟩
  · have hd : decide (80 < (l.length : Int)) = true := by simp; omega
    go_enter Try.func3, Try.ntmps3
    go_wp2_with fail
    refine (new_any epoch first window queue wait HU.out _).mono ?_
    rintro e w1 ⟨rfl, h1, hb1⟩
    go_wp2_with fail
    refine (awake_any _).mono ?_
    rintro e w2 ⟨rfl, hb2⟩
    go_wp2_with fail
    refine (awake_any _).mono ?_
    rintro e w3 ⟨rfl, hb3⟩
    have hbw := hb1.trans (hb2.mono hb1.size)
    go_wp2_with fail
    go_ret
    exact ⟨rfl, hbw.trans (hb3.mono hbw.size)⟩
end Go.Proofs.Ytblaanohidldpaa.Link
