/- Layer 5: the walk of CrcMixes. Conditions: the table lies in block 0. -/
import Derived.Test.YtflmcfddaabboaaDoorBytes
namespace Go.Proofs.YtflmcfddaabboaaDoor
open Go.RowKit

theorem bv_xor8 (a b : UInt8) : bits .xor .u8 (a.toNat : Int) (b.toNat : Int) = ((a ^^^ b).toNat : Int) := by
  rw [u8_xor_nat _ _ a.toNat_lt b.toNat_lt]; simp
def mixed (a b c : List UInt8) : List UInt8 := List.zipWith (· ^^^ ·) (List.zipWith (· ^^^ ·) a b) c
def mixTo (a b c : List UInt8) (k : Nat) : List UInt8 := (mixed a b c).take k ++ a.drop k
theorem mixed_length (a b c : List UInt8) (hb : b.length = a.length) (hc : c.length = a.length) : (mixed a b c).length = a.length := by
  simp [mixed, hb, hc]
theorem mixTo_length (a b c : List UInt8) (hb : b.length = a.length) (hc : c.length = a.length) (k : Nat) (hk : k ≤ a.length) : (mixTo a b c k).length = a.length := by
  simp [mixTo, mixed_length a b c hb hc]; omega
theorem mixTo_at (a b c : List UInt8) (hb : b.length = a.length) (hc : c.length = a.length) (k : Nat) (hk : k < a.length) : (mixTo a b c k).getD k 0 = a.getD k 0 := by
  unfold mixTo
  rw [List.getD_eq_getElem?_getD, List.getElem?_append_right (by simp [mixed_length a b c hb hc]; omega)]
  simp [mixed_length a b c hb hc, List.getD_eq_getElem?_getD, Nat.min_eq_left (Nat.le_of_lt hk)]
theorem take_set {α : Type} (m a : List α) (k : Nat) (hm : k < m.length) (ha : k < a.length) : m.take (k + 1) ++ a.drop (k + 1) = (m.take k ++ a.drop k).set k m[k] := by
  rw [List.take_succ_eq_append_getElem hm, List.set_append_right _ _ (by rw [List.length_take]; omega), List.drop_eq_getElem_cons ha, List.length_take, Nat.min_eq_left (by omega),
    Nat.sub_self, List.set_cons_zero, List.append_assoc]
  rfl
theorem mixTo_succ (a b c : List UInt8) (hb : b.length = a.length) (hc : c.length = a.length) (k : Nat) (hk : k < a.length) :
    mixTo a b c (k + 1) = (mixTo a b c k).set k (a[k] ^^^ b[k] ^^^ c[k]) := by
  have hm := mixed_length a b c hb hc
  unfold mixTo
  rw [take_set (mixed a b c) a k (by omega) hk]
  simp [mixed]
theorem mix_sum (a b c : List UInt8) (hb : b.length = a.length) (hc : c.length = a.length) : (val (Crc.sum (mixTo a b c a.length)) == val (Crc.sum a ^^^ Crc.sum b ^^^ Crc.sum c)) = true := by
  have e : mixTo a b c a.length = mixed a b c := by simp [mixTo, List.take_of_length_le (Nat.le_of_eq (mixed_length a b c hb hc))]
  rw [e, ← Crc.sum_mix a b c hb hc]
  simp [mixed]

section
attribute [local go_sem] bv_xor
set_option maxHeartbeats 2000000 in
theorem mixes_walk (a b c : ByteArray) (w : World) (ha : a.size ≤ maxLen) (hbs : b.size ≤ maxLen) (hcs : c.size ≤ maxLen) (ht : TabAt w) :
    Calls Tryd.prog 6 #[.string a, .string b, .string c] w fun e w' => e = .returned (.bool true) ∧ Below w.heap.size w w' := by
  have hp := ht.pos
  by_cases h : a.size ≤ 300
  · have hd1 : decide (300 < (a.size : Int)) = false := by simp; omega
    by_cases h2 : b.size = a.size ∧ c.size = a.size
    · obtain ⟨h2, h3⟩ := h2
      have hd2 : ((b.size : Int) != (a.size : Int)) = false := by simp; omega
      have hd3 : ((c.size : Int) != (a.size : Int)) = false := by simp; omega
      have lb : b.data.toList.length = a.data.toList.length := by rw [← Lib.size_eq, ← Lib.size_eq, h2]
      have lc : c.data.toList.length = a.data.toList.length := by rw [← Lib.size_eq, ← Lib.size_eq, h3]
      have HB := Lib.hid h2
      have HC := Lib.hid h3
      have LB := Lib.hid lb
      have LC := Lib.hid lc
      clear h2 h3 lb lc
      go_enter Tryd.func6, Tryd.ntmps6
      go_wp2_with fail
      refine (awake_any _ ht).mono ?_
      rintro e w1 ⟨rfl, hb1⟩
      have ht1 := ht.below hb1 hp
      have hp1 := ht1.pos
      obtain ⟨cap, w2, hconv, hb2, hby, hsz⟩ := to_bytes a w1
      have hbw := hb1.trans (hb2.mono hb1.size)
      have hg : w1.heap.size < w2.heap.size := by omega
      have hge : w.heap.size ≤ w1.heap.size := hb1.size
      generalize w1.heap.size = g at *
      go_wp2_with fail
      have hl := (Lib.size_eq a)
      have HL := Lib.hid hl
      clear hl hconv
      go_loopw [8] (fun i wr => ∃ k : Nat, k ≤ a.size ∧ i = .int .i64 k ∧ Below w.heap.size w wr ∧ g < wr.heap.size ∧ BytesAt wr g (mixTo a.data.toList b.data.toList c.data.toList k)) (fun i _ => a.size - (intOf i).toNat)
      case atStart => exact ⟨0, Nat.zero_le _, rfl, hbw, hg, by simpa [mixTo] using hby⟩
      case round =>
        obtain ⟨k, hk, rfl, hbr, hgr, hbyr⟩ := hrel
        by_cases hlt : k < a.size
        · have hka : k < a.data.toList.length := by rw [← HL.out]; exact hlt
          have hsu := mixTo_succ a.data.toList b.data.toList c.data.toList LB.out LC.out k hka
          have hlen := mixTo_length a.data.toList b.data.toList c.data.toList LB.out LC.out k (Nat.le_of_lt hka)
          have hat := mixTo_at a.data.toList b.data.toList c.data.toList LB.out LC.out k hka
          have hc0 := (hbyr k (by omega)).1
          have hc1 := (hbyr k (by omega)).2
          rw [hat] at hc0
          have hkb : k < b.size := by rw [HB.out]; exact hlt
          have hkc : k < c.size := by rw [HC.out]; exact hlt
          have i0 : (0 : Int) ≤ (k : Int) := by omega
          have i1 : (k : Int) < (a.size : Int) := by omega
          have i2 : (k : Int) < (b.size : Int) := by omega
          have i3 : (k : Int) < (c.size : Int) := by omega
          have hset := hbyr.set (i := k) (by omega) (a.data.toList[k] ^^^ b.data.toList[k]'(by rw [LB.out]; exact hka) ^^^ c.data.toList[k]'(by rw [LC.out]; exact hka))
          rw [← hsu] at hset
          have ea : a.data.toList.getD k 0 = a.data.toList[k] := by simp [List.getD_eq_getElem?_getD, List.getElem?_eq_getElem hka]
          rw [ea] at hc0
          have hv : bits .xor .u8 (bits .xor .u8 (a.data[k].toNat : Int) (b[k].toNat : Int)) (c[k].toNat : Int) = ((a.data.toList[k] ^^^ b.data.toList[k]'(by rw [LB.out]; exact hka) ^^^ c.data.toList[k]'(by rw [LC.out]; exact hka)).toNat : Int) := by
            rw [bv_xor8, bv_xor8]; rfl
          have HV := Lib.hid hv
          have HS := Lib.hid hset
          clear hsu hlen hat hset ea hv
          go_wp2_with fail
          go_region
          go_wp2
          go_roundw
          case rel => exact ⟨k + 1, by omega, by go_num, (hbr.setCell hge _).drew, by simpa [World.setCell] using hgr, by rw [HV.out]; exact HS.out⟩
          case measure => simp [intOf]; omega
        · obtain rfl : k = a.size := by omega
          have hfin := mix_sum a.data.toList b.data.toList c.data.toList LB.out LC.out
          rw [← HL.out] at hfin
          have hlen := mixTo_length a.data.toList b.data.toList c.data.toList LB.out LC.out a.size (Nat.le_of_eq HL.out)
          have hback := of_bytes hbyr a.size cap (HL.out.trans hlen.symm)
          have htr := ht.below hbr hp
          have hsm : (⟨(mixTo a.data.toList b.data.toList c.data.toList a.size).toArray⟩ : ByteArray).size ≤ maxLen := by
            rw [Lib.size_eq]; show (mixTo a.data.toList b.data.toList c.data.toList a.size).length ≤ _; rw [hlen, ← HL.out]; exact ha
          generalize mixTo a.data.toList b.data.toList c.data.toList a.size = M at *
          clear hlen
          go_wp2_with fail
          refine (sum_any _ _ hsm htr).mono ?_
          rintro e w5 ⟨rfl, rfl⟩
          go_wp2_with fail
          refine (sum_any a _ ha htr).mono ?_
          rintro e w5 ⟨rfl, rfl⟩
          go_wp2_with fail
          refine (sum_any b _ hbs htr).mono ?_
          rintro e w5 ⟨rfl, rfl⟩
          go_wp2_with fail
          refine (sum_any c _ hcs htr).mono ?_
          rintro e w5 ⟨rfl, rfl⟩
          go_wp2_with fail
          go_ret
          exact ⟨rfl, hbr⟩
    · have hd : ((b.size : Int) != (a.size : Int)) = true ∨ ((b.size : Int) != (a.size : Int)) = false ∧ ((c.size : Int) != (a.size : Int)) = true := by simp; omega
      rcases hd with hd | ⟨hd, hd2⟩
      all_goals
        go_enter Tryd.func6, Tryd.ntmps6
        go_wp2_with fail
        refine (awake_any _ ht).mono ?_
        rintro e w1 ⟨rfl, hb1⟩
        have ht1 := ht.below hb1 hp
        go_wp2_with fail
        refine (awake_any _ ht1).mono ?_
        rintro e w2 ⟨rfl, hb2⟩
        go_wp2
        go_ret
        exact ⟨rfl, hb1.trans (hb2.mono hb1.size)⟩
  · have hd : decide (300 < (a.size : Int)) = true := by simp; omega
    go_enter Tryd.func6, Tryd.ntmps6
    go_wp2_with fail
    refine (awake_any _ ht).mono ?_
    rintro e w1 ⟨rfl, hb1⟩
    have ht1 := ht.below hb1 hp
    go_wp2_with fail
    refine (awake_any _ ht1).mono ?_
    rintro e w2 ⟨rfl, hb2⟩
    go_wp2
    go_ret
    exact ⟨rfl, hb1.trans (hb2.mono hb1.size)⟩
end
end Go.Proofs.YtflmcfddaabboaaDoor
