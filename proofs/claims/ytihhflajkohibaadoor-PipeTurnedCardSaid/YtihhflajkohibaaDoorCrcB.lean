/- Layer 5: crc.Sum, crc.Tail and crc.Good return the plain functions of CrcPlain. Conditions: the table lies in block 0. -/
import Derived.Test.YtihhflajkohibaaDoorCrcA
import Derived.Test.YtihhflajkohibaaDoorMem
import Derived.Laws.BytesArg
import Derived.Deep.QuietTactic
import Derived.BigQuiet
import Derived.Deep.RegionWith
import Derived.Lib.Strings
import Derived.Deep.RegionHeld3
namespace Go.Proofs.YtihhflajkohibaaDoor
set_option linter.unusedSimpArgs false
set_option linter.unusedVariables false
set_option maxRecDepth 100000
open Go.RowKit

set_option maxHeartbeats 400000 in
theorem sum_any (s : ByteArray) (w : World) (hs : s.size ≤ maxLen) (ht : TabAt w) :
    Calls Tryd.prog 50 #[.string s] w fun e w' => e = .returned (.int .u32 (val (Crc.sum s.data.toList))) ∧ w = w' := by
  have H0 := more_any 0 s w hs ht
  rw [show val 0 = 0 from rfl] at H0
  have H := Lib.hid H0
  clear H0
  go_enter Tryd.func50, Tryd.ntmps50
  go_wp2_with (go_at_call 64; refine (H.out).mono ?_; rintro e w' ⟨rfl, rfl⟩)
  go_ret
  exact ⟨rfl, rfl⟩

theorem conv_new (w : World) (ns : List Int) (c : Nat) :
    (convert 90 9 (.slice (some ⟨w.heap.size, 0, none⟩) ns.length c)).run Tryd.prog (w.alloc (.cells (ns.map (Value.int .u8)).toArray 5)) =
      .ok (.string (strOfNums ns)) (w.alloc (.cells (ns.map (Value.int .u8)).toArray 5)) := by
  refine run_convert_bytes_arg _ 90 5 Tryd.underlying90 Tryd.underlying5 w.heap.size 0 ns.length c ns rfl (fun i hi => ?_) 9 Tryd.underlying9
  have h := cell_of_row (w.alloc (.cells (ns.map (Value.int .u8)).toArray 5)) w.heap.size (0 + i) _ 5 (0, 0) (heap_alloc_new w _)
  rw [h]
  simp [List.getD_eq_getElem?_getD, hi]
theorem conv4 (w : World) (a b c d : Int) :
    (convert 90 9 (.slice (some ⟨w.heap.size, 0, none⟩) 4 4)).run Tryd.prog (w.alloc (.cells #[.int .u8 a, .int .u8 b, .int .u8 c, .int .u8 d] 5)) =
      .ok (.string (strOfNums [a, b, c, d])) (w.alloc (.cells #[.int .u8 a, .int .u8 b, .int .u8 c, .int .u8 d] 5)) :=
  conv_new w [a, b, c, d] 4
theorem tail_nums (c : BitVec 32) : strOfNums [val c / 16777216 % 256, val c / 65536 % 256, val c / 256 % 256, val c % 256] = ⟨(Crc.tail c).toArray⟩ := by
  have h : ∀ n : Nat, UInt8.ofNat (((n : Nat) : Int) % 256).toNat = Crc.b8 n := by
    intro n
    rw [show ((n : Int) % 256).toNat = n % 256 from by omega]
    apply UInt8.toNat_inj.1
    simp [Crc.b8]
  have e : ∀ k : Nat, (c.toNat : Int) / (k : Int) = ((c.toNat / k : Nat) : Int) := fun k => by simp
  unfold strOfNums Crc.tail val
  simp only [List.map_cons, List.map_nil]
  rw [show (16777216 : Int) = ((16777216 : Nat) : Int) from rfl, show (65536 : Int) = ((65536 : Nat) : Int) from rfl, e, e,
    show (c.toNat : Int) / 256 = ((c.toNat / 256 : Nat) : Int) from by simp, h, h, h, h]

section
attribute [local go_sem] conv4
set_option maxHeartbeats 400000 in
theorem tail_any (sum : BitVec 32) (w : World) :
    Calls Tryd.prog 49 #[.int .u32 (val sum)] w fun e w' => e = .returned (.string ⟨(Crc.tail sum).toArray⟩) ∧ Below w.heap.size w w' := by
  go_enter Tryd.func49, Tryd.ntmps49
  go_wp2
  go_ret
  exact ⟨by rw [tail_nums]; rfl, (Below.refl _ _).alloc (Nat.le_refl _) _⟩
end
theorem TabAt.below {w w' : World} (h : TabAt w) {B : Nat} (hb : Below B w w') (hB : 1 < B) : TabAt w' := fun i hi => by
  rw [hb.cell (p := ⟨1, i, none⟩) hB]; exact h i hi
theorem TabAt.pos {w : World} (h : TabAt w) : 1 < w.heap.size := by
  rcases Nat.lt_or_ge 1 w.heap.size with h0 | h0
  · exact h0
  · have := h 0 (by omega)
    have e : w.heap[1]? = none := Array.getElem?_eq_none h0
    simp [World.cell?, e] at this
theorem ret_tup {k : List UInt8} {a : ByteArray} {x y : Bool} (h : a = ⟨k.toArray⟩) (hb : x = y) : Ending.returned (.tuple #[.string a, .bool x]) = .returned (.tuple #[.string ⟨k.toArray⟩, .bool y]) := by rw [h, hb]
theorem good_test (s : ByteArray) (m : Nat) (h : s.size = m + 4) :
    ((s.extract m s.size).toList == Crc.tail (Crc.sum (List.take m s.data.toList))) = Crc.isGood s.data.toList := by
  have hl : s.data.toList.length = m + 4 := (Lib.size_eq s).symm.trans h
  unfold Crc.isGood
  rw [Lib.extract_toList, hl, show m + 4 - 4 = m from by omega, h, List.take_of_length_le (by simp [hl])]
  simp
set_option maxHeartbeats 400000 in
theorem good_any (s : ByteArray) (w : World) (hs : s.size ≤ maxLen) (ht : TabAt w) :
    Calls Tryd.prog 57 #[.string s] w fun e w' => e = .returned (.tuple #[.string ⟨(Crc.good s.data.toList).toArray⟩, .bool (Crc.isGood s.data.toList)]) ∧ Below w.heap.size w w' := by
  unfold maxLen at hs
  by_cases h4 : 4 ≤ s.size
  · obtain ⟨m, hm⟩ : ∃ m, s.size = m + 4 := ⟨s.size - 4, by omega⟩
    have he : (s.size : Int) - 4 = (m : Int) := by omega
    have h1 : (0 : Int) ≤ (m : Int) := by omega
    have h2 : (m : Int) ≤ (s.size : Int) := by omega
    have h2' : m ≤ s.size := by omega
    have h3 : min m s.size ≤ maxLen := by unfold maxLen; omega
    have hd : decide ((m : Int) < 0) = false := by simp
    have hg := good_test s m hm
    have hx : s.extract 0 m = ⟨(s.data.toList.take m).toArray⟩ := by rw [Lib.extract_eq]; simp
    have hgd : Crc.good s.data.toList = if Crc.isGood s.data.toList then s.data.toList.take m else [] := by
      unfold Crc.good
      rw [show s.data.toList.length - 4 = m from by have : s.data.toList.length = m + 4 := (Lib.size_eq s).symm.trans hm
                                                    omega]
    have HX := Lib.hid hx
    have HG := Lib.hid hgd
    clear hm h4 hx hgd
    cases hgood : Crc.isGood s.data.toList
    all_goals
      rw [hgood] at hg
      have HGD := Lib.hid hgood
      clear hgood
      go_enter Tryd.func57, Tryd.ntmps57
      go_wp2_with fail
      go_region_held3 (fun _ => True) (trivial) (first | (go_at_call 50; refine (sum_any _ _ (by simpa using h3) (by exact ht)).mono ?_; rintro e w' ⟨rfl, rfl⟩) | (go_at_call 49; refine (tail_any _ _).mono ?_; rintro e w' ⟨rfl, hb⟩))
      go_wp2
      go_ret2
      refine ⟨ret_tup (by rw [HG.out, HGD.out]; first | rfl | exact HX.out) rfl, of_drew hb⟩
  · have hd : decide ((s.size : Int) - 4 < 0) = true := by simp; omega
    have hgood : Crc.isGood s.data.toList = false := by
      unfold Crc.isGood
      have : s.data.toList.length = s.size := (Lib.size_eq s).symm
      rw [this]; simp; intro h; omega
    have HGD := Lib.hid hgood
    clear hgood
    go_enter Tryd.func57, Tryd.ntmps57
    go_wp2_with fail
    go_quiet (fail)
    go_wp2
    go_ret2
    exact ⟨ret_tup (by rw [Crc.good_not _ HGD.out]) HGD.out.symm, below_drewN (Below.refl _ _) _⟩
end Go.Proofs.YtihhflajkohibaaDoor
