/- Layer 6: number puts a number's bytes behind others; read is the number that bytes are. Conditions: at most 8 bytes. -/
import Derived.Test.YtihhflajkohibaaGreatDoorFramePlain
import Derived.Test.YtihhflajkohibaaGreatDoorCrcMany
import Derived.Test.YtihhflajkohibaaGreatDoorVec
import Derived.Outline
import Derived.Deep.DeepCutAuto
import Derived.Lib.ConvBytes
import Derived.Laws.Strings2
import Derived.Laws.BitsAllLaws
import Derived.Test.YtihhflajkohibaaGreatDoorFrRight
import Derived.Test.YtihhflajkohibaaGreatDoorFlow
import Derived.LaidEql
import Derived.Stop.Asserts
import Derived.WalkKit
import Derived.RowKitTokens
namespace Go.Proofs.YtihhflajkohibaaGreatDoor.Frame
set_option linter.unusedSimpArgs false
set_option linter.unusedVariables false
set_option maxRecDepth 100000
open Go.RowKit
open Go.Proofs.YtihhflajkohibaaGreatDoor

/-- a byte in memory -/
def bv (b : UInt8) : Value := .int .u8 (b.toNat : Int)
theorem bv_one {l : List UInt8} : ∀ u ∈ l.map bv, u.oneCell' = true := by
  intro u hu
  obtain ⟨x, _, rfl⟩ := List.mem_map.1 hu
  rfl
theorem byteInfo : (Tryz.prog.info? 5).map (fun i => (i.zero, i.size, i.bytes)) = some (some (.int .u8 0), 1, 1) := by kernel_rfl
/-- a number without its last bytes -/
def cutN (n m : Nat) : Int := ((n / 256 ^ m : Nat) : Int)
theorem cutN_eq (n m : Nat) : (n : Int) / 2 ^ (8 * (m : Int)).toNat = cutN n m := by
  unfold cutN
  rw [show (8 * (m : Int)).toNat = 8 * m from by omega, show (2 : Int) ^ (8 * m) = ((256 ^ m : Nat) : Int) from by rw [show 256 = 2 ^ 8 from rfl, ← Nat.pow_mul]; simp]
  simp
theorem cutN_byte (n m : Nat) : Value.int .u8 (cutN n m % 256) = bv (Crc.b8 (n / 256 ^ m)) := by
  unfold cutN bv
  rw [b8_toNat]; simp
theorem hi_step (n k m : Nat) (h : m + 1 ≤ k) : (hi n k).take (k - m) = (hi n k).take (k - (m + 1)) ++ [Crc.b8 (n / 256 ^ m)] := by
  induction k with
  | zero => omega
  | succ k ih =>
    by_cases e : m = k
    · subst e
      simp [hi]
    · rw [show k + 1 - m = (k - m) + 1 from by omega, show k + 1 - (m + 1) = (k - (m + 1)) + 1 from by omega, hi, List.take_succ_cons, List.take_succ_cons, ih (by omega)]; rfl
theorem strOfNums_bytes (l : List UInt8) : strOfNums (l.map fun b => (b.toNat : Int)) = ⟨l.toArray⟩ := by
  unfold strOfNums
  congr 1
  rw [List.map_map]
  congr 1
  conv => rhs; rw [← List.map_id l]
  refine List.map_congr_left fun b _ => ?_
  apply UInt8.toNat_inj.1
  have := b.toNat_lt
  simp
/-- bytes of the call's own, as a string -/
theorem conv_vec {w : World} {F : List Nat} {A : Option Addr} {n c : Nat} {l : List UInt8} (h : Vec w F 1 A n c (l.map bv)) (hn : 0 < n) :
    (convert 118 9 (.slice A n c)).run Tryz.prog w = .ok (.string ⟨l.toArray⟩) w := by
  have hl : l.length = n := by have := h.len; simpa using this
  have h0 : ∀ j (hj : j < n), (l.map bv)[j]? = some (bv (l[j]'(by omega))) := fun j hj => by
    rw [List.getElem?_map, List.getElem?_eq_getElem (by omega)]; rfl
  obtain ⟨g, off, rfl, _, _, _⟩ := h.at (h0 0 hn)
  rw [← strOfNums_bytes]
  refine run_convert_bytes_arg _ 118 5 Tryz.underlying118 Tryz.underlying5 g off n c _ (by rw [List.length_map, hl]) (fun i hi => ?_) 9 Tryz.underlying9
  obtain ⟨g', off', e, _, _, hc⟩ := h.at (h0 i hi)
  injection e with e
  injection e with e1 e2
  subst e1; subst e2
  rw [hc]
  simp [bv, List.getD_eq_getElem?_getD, List.getElem?_eq_getElem (show i < l.length by omega)]
section
attribute [local go_sem] cutN_eq
set_option maxRecDepth 100000 in
set_option maxHeartbeats 1000000 in
theorem number_any {w : World} {F : List Nat} {A : Option Addr} {l : List UInt8} {c : Nat} (hv : Vec w F 1 A l.length c (l.map bv)) (n k : Nat) (hk : k ≤ 8) (hl : l.length ≤ 1000) :
    Calls Tryz.prog 63 #[.slice A l.length c, .int .u64 (n : Int), .int .i64 (k : Int)] w fun e w' => ∃ v, e = .returned v ∧ Appended w F 1 (l.length + k) ((l ++ hi n k).map bv) v w' := by
  obtain ⟨i0, hi0, hz0, hz1, hz2⟩ := info_parts byteInfo
  go_enter Tryz.func63, Tryz.ntmps63
  go_wp2_with fail
  go_loopw [0, 7] (fun s i wr => ∃ r : Nat, r ≤ k ∧ i = .int .i64 ((r : Int) - 1) ∧ ∃ F' A' c', s = .slice A' (l.length + (k - r)) c' ∧ Vec wr F' 1 A' (l.length + (k - r)) c' ((l ++ (hi n k).take (k - r)).map bv) ∧ Turns F F' w wr) (fun _ i _ => (intOf i + 1).toNat)
  case atStart => exact ⟨k, Nat.le_refl _, rfl, F, A, c, by simp, by simpa using hv, Turns.refl _ _⟩
  case round =>
    obtain ⟨r, hr, rfl, F', A', c', rfl, hv', ht⟩ := hrel
    cases r with
    | zero =>
      go_wp2_with fail
      go_ret
      have e : (hi n k).take (k - 0) = hi n k := List.take_of_length_le (by rw [hi_length]; omega)
      rw [e] at hv'
      exact ⟨_, rfl, F', A', c', rfl, hv', ht⟩
    | succ m =>
      have e1 : ((m + 1 : Nat) : Int) - 1 = (m : Int) := by omega
      rw [e1]
      clear e1
      have g0 : (0 : Int) ≤ 8 * (m : Int) := by omega
      have g1 : 8 * (m : Int) ≤ 64 := by omega
      have hal : Below wr.heap.size wr (wr.alloc (.cells #[.int .u8 (cutN n m % 256)] 5)) := (Below.refl _ _).alloc (Nat.le_refl _) _
      have HAL := Lib.hid (ht.trans (Turns.of_below hal F'))
      clear hal
      go_wp2_with ((at_builtin; refine wpList_append_vec _ rfl (.tmp 14) (.tmp 20) 118 118 rfl 5 i0 _ 1 1 Tryz.underlying118 hi0 hz0 hz1 hz2 rfl F' A' (l.length + (k - (m + 1))) c' _ _ 1 [.int .u8 (cutN n m % 256)] rfl rfl (hv'.alloc _) (src_new _ Tryz.underlying118 [.int .u8 (cutN n m % 256)] 1 1 1 rfl (by simp [Value.oneCell']) _ (heap_alloc_new wr _)) (by unfold maxLen; omega) (by omega) ?_; intro v' w' hap; obtain ⟨F2, A2, c2, rfl, hv2, ht2⟩ := hap.all))
      go_roundw
      case rel =>
        have e1 : l.length + (k - (m + 1)) + 1 = l.length + (k - m) := by omega
        have e2 : (l ++ (hi n k).take (k - (m + 1))).map bv ++ [.int .u8 (cutN n m % 256)] = (l ++ (hi n k).take (k - m)).map bv := by
          rw [cutN_byte, hi_step n k m hr, ← List.append_assoc, List.map_append (l₁ := l ++ _)]; rfl
        rw [e1, e2] at hv2
        exact ⟨m, by omega, rfl, F2, A2, c2, by rw [e1], hv2, HAL.out.trans ht2⟩
      case measure => simp [intOf]
theorem number_is {w : World} {F : List Nat} {A : Option Addr} {l : List UInt8} {c m : Nat} (hv : Vec w F 1 A m c (l.map bv)) (hm : l.length = m) (n k : Nat) (hk : k ≤ 8) (hl : m ≤ 1000) (n' k' : Int) (hn : n' = (n : Int)) (hk' : k' = (k : Int)) :
    Calls Tryz.prog 63 #[.slice A m c, .int .u64 n', .int .i64 k'] w fun e w' => ∃ F2 A2 c2, e = .returned (.slice A2 (m + k) c2) ∧ Vec w' F2 1 A2 (m + k) c2 ((l ++ hi n k).map bv) ∧ Turns F F2 w w' := by
  subst hm; subst hn; subst hk'
  refine (number_any hv n k hk hl).mono ?_
  rintro e w' ⟨v, rfl, h⟩
  obtain ⟨F2, A2, c2, rfl, h1, h2⟩ := h.all
  exact ⟨F2, A2, c2, rfl, h1, h2⟩
end
end Go.Proofs.YtihhflajkohibaaGreatDoor.Frame
/- Layer 6: read is the number that bytes are. Conditions: at most 8 bytes. -/
namespace Go.Proofs.YtihhflajkohibaaGreatDoor.Frame
set_option linter.unusedSimpArgs false
set_option linter.unusedVariables false
set_option maxRecDepth 100000
open Go.RowKit
open Go.Proofs.YtihhflajkohibaaGreatDoor

def numI (l : List UInt8) : Int := (num l : Int)
theorem sub_take (l : List UInt8) (a n j : Nat) (hj : j ≤ n) : (sub l a n).take j = sub l a j := by
  unfold sub; rw [List.take_take, Nat.min_eq_left hj]
theorem slice_mid {t : TypeId} {P : Program} (ht : P.underlying t = some .string) (s : ByteArray) (a b : Nat) (h1 : a ≤ b) (h2 : b ≤ s.size) (w : World) :
    (Instr.slice t (.string s) (some (.int .i64 (a : Int))) (some (.int .i64 (b : Int))) none).run P w = .ok (.string (s.extract a b)) w := by
  rw [run_slice_string w t s .i64 .i64 _ _ ht (by omega) (by omega) (by omega)]; rfl
theorem conv_bytes (s : ByteArray) (w : World) : ∃ c, (convert 9 118 (.string s)).run Tryz.prog w = .ok (.slice (some ⟨w.heap.size, 0, none⟩) s.size c) (Lib.bytesWorld w 5 s) :=
  ⟨_, Lib.run_convert_string_bytes w _ _ _ s Tryz.underlying9 Tryz.underlying118 Tryz.underlying5⟩
theorem bytes_below (w : World) (e : TypeId) (s : ByteArray) : Below w.heap.size w (Lib.bytesWorld w e s) :=
  ⟨rfl, rfl, rfl, by rw [Lib.bytesWorld_size]; omega, fun k hk => Lib.bytesWorld_at_old w e s k hk⟩
/-- one byte more -/
theorem numI_snoc (l : List UInt8) (c : UInt8) : numI (l ++ [c]) = numI l * 256 + (c.toNat : Int) := by unfold numI; rw [num_snoc]; simp
theorem numI_range (l : List UInt8) (h : l.length ≤ 8) : 0 ≤ numI l ∧ numI l ≤ 18446744073709551615 := by
  have h1 := num_lt l
  have h2 : 256 ^ l.length ≤ 256 ^ 8 := Nat.pow_le_pow_right (by decide) h
  unfold numI; omega
theorem or_step (l : List UInt8) (h : l.length ≤ 7) (c : UInt8) : bits .or .u64 (IntKind.u64.wrap (numI l * 256)) (IntKind.u64.wrap (c.toNat : Int)) = numI (l ++ [c]) := by
  have h1 := num_lt l
  have h2 : 256 ^ l.length ≤ 256 ^ 7 := Nat.pow_le_pow_right (by decide) h
  have hc := c.toNat_lt
  have e1 : IntKind.u64.wrap (numI l * 256) = ((2 ^ 8 * num l : Nat) : Int) := by
    rw [IntKind.wrap_u64]; unfold numI; omega
  have e2 : IntKind.u64.wrap (c.toNat : Int) = ((c.toNat : Nat) : Int) := by
    rw [IntKind.wrap_u64]; omega
  rw [e1, e2, u64_or_nat _ _ (by omega) (by omega), ← Nat.two_pow_add_eq_or_of_lt (by omega)]
  unfold numI
  rw [num_snoc]; omega
theorem take_next (l : List UInt8) (j : Nat) (h : j < l.length) : l.take (j + 1) = l.take j ++ [l.getD j 0] := by
  rw [List.take_succ_eq_append_getElem h, List.getD_eq_getElem?_getD, List.getElem?_eq_getElem h]; rfl
section
set_option maxRecDepth 100000 in
set_option maxHeartbeats 1000000 in
theorem read_any (s : ByteArray) (a n : Nat) (w : World) (hs : s.size ≤ maxLen) (h : a + n ≤ s.size) (hn : n ≤ 8) :
    Calls Tryz.prog 86 #[.string s, .int .i64 (a : Int), .int .i64 (n : Int)] w fun e w' => e = .returned (.int .u64 (numI (sub s.data.toList a n))) ∧ Below w.heap.size w w' := by
  unfold maxLen at hs
  obtain ⟨b, hb⟩ : ∃ b : Nat, b = a + n := ⟨_, rfl⟩
  have he : (a : Int) + (n : Int) = (b : Int) := by omega
  have hsl := slice_mid Tryz.underlying9 s a b (by omega) (by omega)
  obtain ⟨t, ht⟩ : ∃ t : ByteArray, t = s.extract a b := ⟨_, rfl⟩
  have hd : t.data.toList = sub s.data.toList a n := by
    rw [ht, hb, Lib.extract_data]; unfold sub; rw [show a + n - a = n from by omega]
  have htn : t.size = n := by
    have e : t.data.toList.length = t.size := by simp
    rw [← e, hd, sub_length _ _ _ (by rw [show s.data.toList.length = s.size from by simp]; exact h)]
  rw [← ht] at hsl
  obtain ⟨c, hcv⟩ := conv_bytes t w
  have hbl := bytes_below w 5 t
  have hcell := fun j hj => Lib.bytesWorld_cell w 5 t j hj
  rw [htn] at hcv hcell
  generalize Lib.bytesWorld w 5 t = w1 at *
  have hbs : b ≤ s.size := by omega
  have HC := Lib.hid hcell
  have HD := Lib.hid hd
  have HN := Lib.hid (show t.data.toList.length = n from (show t.data.toList.length = t.size from by simp).trans htn)
  clear hb h hcell hd ht htn
  go_enter Tryz.func86, Tryz.ntmps86
  go_wp2_with fail
  go_loop [7, 18] (fun m i => ∃ j : Nat, j ≤ n ∧ i = .int .i64 (j : Int) ∧ m = .int .u64 (numI (t.data.toList.take j))) (fun _ i => n - (intOf i).toNat)
  case atStart => exact ⟨0, Nat.zero_le _, rfl, rfl⟩
  case round =>
    obtain ⟨j, hj, rfl, rfl⟩ := hrel
    by_cases hlt : j < n
    · have hc := HC.out j hlt
      have hst := or_step (t.data.toList.take j) (by rw [List.length_take]; omega) (t.data.toList.getD j 0)
      rw [← take_next _ j (by rw [HN.out]; exact hlt)] at hst
      have HST := Lib.hid hst
      clear hst
      generalize t.data.toList.getD j 0 = x at *
      go_wp2_with fail
      go_round
      case rel => exact ⟨j + 1, by omega, by go_num, by rw [HST.out]⟩
      case measure => simp [intOf]; omega
    · obtain rfl : j = n := by omega
      go_wp2_with fail
      go_ret
      exact ⟨ret_int (by rw [List.take_of_length_le (by rw [HN.out]; exact Nat.le_refl _), HD.out]), hbl⟩
end
end Go.Proofs.YtihhflajkohibaaGreatDoor.Frame
/- Layer 6: Put hands back a frame's bytes. Conditions: the table of layer 5 lies; numbers without sign. -/
namespace Go.Proofs.YtihhflajkohibaaGreatDoor.Frame
set_option linter.unusedSimpArgs false
set_option linter.unusedVariables false
set_option maxRecDepth 100000
open Go.RowKit
open Go.Proofs.YtihhflajkohibaaGreatDoor
open Go.Proofs.YtihhflajkohibaaGreatDoor.Link (Fr right_is right_any frBox bcell)
theorem ret_si {a b : ByteArray} {m : Int} (h : a = b) : Ending.returned (.tuple #[.string a, .int .i64 m]) = .returned (.tuple #[.string b, .int .i64 m]) := by rw [h]
section
set_option maxRecDepth 100000 in
set_option maxHeartbeats 1000000 in
theorem put_no (k ep sq ak : Int) (b : ByteArray) (w : World) (hr : Fr.right ⟨k, ep, sq, ak, b⟩ = false) :
    Calls Tryz.prog 39 #[.agg #[.int .i64 k, .int .i64 ep, .int .u64 sq, .int .u64 ak, .string b]] w fun e w' => e = .returned (.tuple #[.string ⟨#[]⟩, .int .i64 60]) ∧ Below w.heap.size w w' := by
  have HR := Lib.hid hr
  clear hr
  go_enter Tryz.func39, Tryz.ntmps39
  go_wp2_with fail
  refine (right_is ⟨k, ep, sq, ak, b⟩ false HR.out _).mono ?_
  rintro e w1 ⟨rfl, hb⟩
  go_wp2_with fail
  go_ret2
  exact ⟨rfl, ((Below.refl w.heap.size w).alloc (Nat.le_refl _) _).trans (hb.mono (by simp))⟩
set_option maxRecDepth 100000 in
set_option maxHeartbeats 2000000 in
theorem put_yes (k ep sq ak : Nat) (b : ByteArray) (w : World) (hr : Fr.right ⟨(k : Int), (ep : Int), (sq : Int), (ak : Int), b⟩ = true) (ht : TabAt w) :
    Calls Tryz.prog 39 #[.agg #[.int .i64 (k : Int), .int .i64 (ep : Int), .int .u64 (sq : Int), .int .u64 (ak : Int), .string b]] w fun e w' => e = .returned (.tuple #[.string ⟨(put ⟨(k : Int), (ep : Int), (sq : Int), (ak : Int), b⟩).toArray⟩, .int .i64 0]) ∧ Below w.heap.size w w' := by
  obtain ⟨q0, q1, q2, q3⟩ := right_iff.1 hr
  have q1 : ep ≤ 65535 := by simp only at q1; omega
  have q2 : b.size ≤ 64 := q2
  have q4 : k ≤ 2 := by simp only at q3; omega
  have HR := Lib.hid hr
  have hp := ht.pos
  obtain ⟨i0, hi0, hz0, hz1, hz2⟩ := info_parts byteInfo
  clear hr q0 q3
  go_enter Tryz.func39, Tryz.ntmps39
  go_wp2_with fail
  refine (right_is ⟨(k : Int), (ep : Int), (sq : Int), (ak : Int), b⟩ true HR.out _).mono ?_
  rintro e w1 ⟨rfl, hb⟩
  obtain ⟨hcc, _⟩ := bcell hb
  have c0 := hcc w.heap.size 0 (by simp)
  have c1 := hcc w.heap.size 1 (by simp)
  have c2 := hcc w.heap.size 2 (by simp)
  have c3 := hcc w.heap.size 3 (by simp)
  have c4 := hcc w.heap.size 4 (by simp)
  simp at c0 c1 c2 c3 c4
  have hsz : w.heap.size < w1.heap.size := by have := hb.size; simp at this; omega
  clear hcc
  go_wp2_with fail
  have hv0 : Vec (w1.alloc (.cells #[.int .u8 78, .int .u8 1, .int .u8 (k : Int)] 5)) [w1.heap.size] 1 (some ⟨w1.heap.size, 0, none⟩) 3 3 (([78, 1, Crc.b8 k] : List UInt8).map bv) := by
    have h0 := Vec.of_new (w := w1.alloc (.cells #[.int .u8 78, .int .u8 1, .int .u8 (k : Int)] 5)) (e := 5) (g := w1.heap.size) #[.int .u8 78, .int .u8 1, .int .u8 (k : Int)] 1 3 3 (by omega) (by decide) rfl (heap_alloc_new w1 _)
    have e : (([78, 1, Crc.b8 k] : List UInt8).map bv) = #[Value.int .u8 78, .int .u8 1, .int .u8 (k : Int)].toList.take (3 * 1) := by
      have e2 : bv (Crc.b8 k) = .int .u8 (k : Int) := by unfold bv; rw [b8_toNat, Nat.mod_eq_of_lt (by omega)]
      simp only [List.map_cons, List.map_nil, e2]; rfl
    rw [e]; exact h0
  have ha0 : Below w1.heap.size w1 (w1.alloc (.cells #[.int .u8 78, .int .u8 1, .int .u8 (k : Int)] 5)) := (Below.refl _ _).alloc (Nat.le_refl _) _
  generalize hw0 : w1.alloc (.cells #[.int .u8 78, .int .u8 1, .int .u8 (k : Int)] 5) = w2 at *
  clear hw0
  have b2 := (ha0.cell (p := ⟨w.heap.size, 2, none⟩) hsz).trans c2
  have b3 := (ha0.cell (p := ⟨w.heap.size, 3, none⟩) hsz).trans c3
  have b4 := (ha0.cell (p := ⟨w.heap.size, 4, none⟩) hsz).trans c4
  have hx2 : w.heap.size < w2.heap.size := Nat.lt_of_lt_of_le hsz ha0.size
  obtain ⟨L0, hL0⟩ : ∃ L0 : List UInt8, L0 = [78, 1, Crc.b8 k] := ⟨_, rfl⟩
  have hl0 : L0.length = 3 := by rw [hL0]; rfl
  rw [← hL0] at hv0
  have HL0 := Lib.hid hL0
  have Hl0 := Lib.hid hl0
  clear hL0 hl0
  refine (number_is hv0 Hl0.out ep 2 (by omega) (by omega) _ _ rfl rfl).mono ?_
  rintro e w3 ⟨F1, A1, c1', rfl, hv1, ht1⟩
  have hXF : w.heap.size ∉ [w1.heap.size] := by simp; omega
  have hXF1 : w.heap.size ∉ F1 := ht1.apart hx2 hXF
  have d2 := (ht1.kept.cell (p := ⟨w.heap.size, 2, none⟩) hx2 hXF).trans b2
  have d3 := (ht1.kept.cell (p := ⟨w.heap.size, 3, none⟩) hx2 hXF).trans b3
  have d4 := (ht1.kept.cell (p := ⟨w.heap.size, 4, none⟩) hx2 hXF).trans b4
  have hx3 : w.heap.size < w3.heap.size := Nat.lt_of_lt_of_le hx2 ht1.kept.size
  obtain ⟨L1, hL1⟩ : ∃ L1 : List UInt8, L1 = L0 ++ hi ep 2 := ⟨_, rfl⟩
  rw [← hL1] at hv1
  have HL1 := Lib.hid hL1
  have Hl1 := Lib.hid (show L1.length = 5 by rw [hL1, List.length_append, Hl0.out, hi_length])
  obtain ⟨L2, hL2⟩ : ∃ L2 : List UInt8, L2 = L1 ++ hi sq 8 := ⟨_, rfl⟩
  have HL2 := Lib.hid hL2
  have Hl2 := Lib.hid (show L2.length = 13 by rw [hL2, List.length_append, Hl1.out, hi_length])
  have HV1 := Lib.hid hv1.drew
  have HT1 := Lib.hid ht1
  clear c0 c1 c2 c3 c4 b2 b3 b4 hv0 hL1 hL2 hv1 ht1
  go_wp2_with fail
  go_region_held3 (fun w' => w'.cell? ⟨w.heap.size, 2, none⟩ = some (.int .u64 (sq : Int)) ∧ w'.cell? ⟨w.heap.size, 3, none⟩ = some (.int .u64 (ak : Int)) ∧ w'.cell? ⟨w.heap.size, 4, none⟩ = some (.string b)) (first | exact ⟨d2, d3, d4⟩ | exact ⟨e2, e3, e4⟩ | exact ⟨f2, f3, f4⟩) ((go_at_call 63; first | ((with_reducible refine (number_is HV1.out Hl1.out sq 8 (by omega) (by omega) (sq : Int) 8 rfl rfl).mono ?_); rintro e w4 ⟨F2, A2, c2', rfl, hv2, ht2⟩; rw [← HL2.out] at hv2; have HV2 := Lib.hid hv2; have hXF2 := ht2.apart hx3 hXF1; have hx4 := Nat.lt_of_lt_of_le hx3 ht2.kept.size; have e2 := (ht2.kept.cell (p := ⟨w.heap.size, 2, none⟩) hx3 hXF1).trans d2; have e3 := (ht2.kept.cell (p := ⟨w.heap.size, 3, none⟩) hx3 hXF1).trans d3; have e4 := (ht2.kept.cell (p := ⟨w.heap.size, 4, none⟩) hx3 hXF1).trans d4; clear hv2) | ((refine (number_is HV2.out Hl2.out ak 8 (by omega) (by omega) (ak : Int) 8 rfl rfl).mono ?_); rintro e w5 ⟨F3, A3, c3', rfl, hv3, ht3⟩; have hXF3 := ht3.apart hx4 hXF2; have hx5 := Nat.lt_of_lt_of_le hx4 ht3.kept.size; have f2 := (ht3.kept.cell (p := ⟨w.heap.size, 2, none⟩) hx4 hXF2).trans e2; have f3 := (ht3.kept.cell (p := ⟨w.heap.size, 3, none⟩) hx4 hXF2).trans e3; have f4 := (ht3.kept.cell (p := ⟨w.heap.size, 4, none⟩) hx4 hXF2).trans e4)))
  obtain ⟨L3, hL3⟩ : ∃ L3 : List UInt8, L3 = L2 ++ hi ak 8 := ⟨_, rfl⟩
  rw [← hL3] at hv3
  have HL3 := Lib.hid hL3
  have Hl3 := Lib.hid (show L3.length = 21 by rw [hL3, List.length_append, Hl2.out, hi_length])
  obtain ⟨L4, hL4⟩ : ∃ L4 : List UInt8, L4 = L3 ++ hi b.size 2 := ⟨_, rfl⟩
  have HL4 := Lib.hid hL4
  have Hl4 := Lib.hid (show L4.length = 23 by rw [hL4, List.length_append, Hl3.out, hi_length])
  have HV3 := Lib.hid hv3.drew
  have HT3 := Lib.hid (HT1.out.trans ((show Turns F1 F2 w3 w4 from ⟨ht2.kept.drewR, ht2.new⟩).trans ht3))
  clear hL3 hL4 hv3
  go_wp2_with fail
  have hwb : IntKind.u64.wrap (b.size : Int) = (b.size : Int) := IntWalk.u64_in _ (by omega)
  refine' wp_flow [only 0 _, only 1 _, only 2 _, only 3 _, only 4 _, own 5 (fun x v => ∃ F4 A4 c4, x = .slice A4 23 c4 ∧ Vec v F4 1 A4 23 c4 (L4.map bv) ∧ Turns F3 F4 w5 v), only 6 _, only 7 _, own 8 (fun x v => ∃ F5 A5 c5, x = .slice A5 (23 + b.size) c5 ∧ Vec v F5 1 A5 (23 + b.size) c5 (L4.map bv ++ byteCells b) ∧ Turns F3 F5 w5 v), own 9 (fun x v => ∃ F5 A5 c5, x = .slice A5 (23 + b.size) c5 ∧ Vec v F5 1 A5 (23 + b.size) c5 (L4.map bv ++ byteCells b) ∧ Turns F3 F5 w5 v), (fun _ v => Vec v F3 1 A3 21 c3' (L3.map bv) ∧ Turns F3 F3 w5 v)] (fun v => v.cell? ⟨w.heap.size, 4, none⟩ = some (.string b)) [[], [], [1], [2], [3], [0, 4, 10], [], [6], [5, 7], [8]] [[], [], [], [], [], [10], [], [], [5], []] [[9], [], [], [], [], [], [], [], [], []] [[10], [10], [10], [10], [10], [], [5, 10], [5, 10], [], [8]] [5, 8, 9, 10] [0, 0, 2, 6, 14, 31, 0, 64, 255, 511] _ (fun us => ?hfr) (by kernel_rfl) (by kernel_rfl) (by kernel_rfl) ⟨only_still _, only_still _, only_still _, only_still _, only_still _, trivial, only_still _, only_still _, trivial, trivial, trivial, trivial⟩ (f4) (by simp) (⟨HV3.out, (Turns.refl F3 w5).drewN 1⟩) ?hst ?hla
  case hfr => (simp only [List.cons_append, List.nil_append, putAll, Act.put, List.setIfInBounds_toArray, List.set_cons_zero, List.set_cons_succ, Nat.reduceAdd]; rfl)
  case hst =>
    refine ⟨?_, ?_, ?_, ?_, ?_, ?_, ?_, ?_, ?_, ?_, trivial⟩
    · intro us v hR hn ho K hK
      obtain ⟨o9, -⟩ := ho
      have n9 : us 9 = .slice A3 21 c3' := o9
      clear o9
      rw [if_pos (by rfl)]
      go_simp
      refine hK _ _ _ (by simp only [Act.put, List.setIfInBounds_toArray, List.set_cons_zero, List.set_cons_succ, Nat.reduceAdd, n9] <;> rfl) ?_ hR ⟨fun h => h, trivial⟩
      refine only_mk (v := v) ?_
      with_reducible rfl
    · intro us v hR hn ho K hK
      clear ho
      rw [if_pos (by rfl)]
      go_simp
      refine hK _ _ _ (by simp only [Act.put, List.setIfInBounds_toArray, List.set_cons_zero, List.set_cons_succ, Nat.reduceAdd] <;> rfl) ?_ hR ⟨fun h => h, trivial⟩
      refine only_mk (v := v) ?_
      with_reducible rfl
    · intro us v hR hn ho K hK
      obtain ⟨n1, -⟩ := hn
      have n1 : us 1 = _ := n1
      clear ho
      rw [if_pos (by rfl)]
      go_simp
      refine hK _ _ _ (by simp only [Act.put, List.setIfInBounds_toArray, List.set_cons_zero, List.set_cons_succ, Nat.reduceAdd, n1] <;> rfl) ?_ hR ⟨fun h => h, trivial⟩
      refine only_mk (v := v) ?_
      with_reducible rfl
    · intro us v hR hn ho K hK
      obtain ⟨n2, -⟩ := hn
      have n2 : us 2 = _ := n2
      clear ho
      rw [if_pos (by rfl)]
      go_simp
      refine hK _ _ _ (by simp only [Act.put, List.setIfInBounds_toArray, List.set_cons_zero, List.set_cons_succ, Nat.reduceAdd, n2] <;> rfl) ?_ hR ⟨fun h => h, trivial⟩
      refine only_mk (v := v) ?_
      with_reducible rfl
    · intro us v hR hn ho K hK
      obtain ⟨n3, -⟩ := hn
      have n3 : us 3 = _ := n3
      clear ho
      rw [if_pos (by rfl)]
      go_simp
      refine hK _ _ _ (by simp only [Act.put, List.setIfInBounds_toArray, List.set_cons_zero, List.set_cons_succ, Nat.reduceAdd, n3] <;> rfl) ?_ hR ⟨fun h => h, trivial⟩
      refine only_mk (v := v) ?_
      with_reducible rfl
    · intro us v hR hn ho K hK
      obtain ⟨n0, n4, ns, -⟩ := hn
      have n0 : us 0 = _ := n0
      have n4 : us 4 = _ := n4
      clear ho
      obtain ⟨ks1, ks2⟩ := ns
      rw [if_pos (by rfl)]
      go_simp
      with_reducible refine (number_is ks1 Hl3.out b.size 2 (by omega) (by omega) (b.size : Int) 2 rfl rfl).mono ?_
      rintro e v' ⟨F4, A4, c4', rfl, hv4, ht4⟩
      dsimp only
      refine hK _ _ _ (by simp only [Act.put, List.setIfInBounds_toArray, List.set_cons_zero, List.set_cons_succ, Nat.reduceAdd, n0, n4] <;> rfl) ⟨F4, A4, c4', rfl, by rw [HL4.out]; exact hv4, ks2.trans ht4⟩ ((ht4.kept.cell (p := ⟨w.heap.size, 4, none⟩) (Nat.lt_of_lt_of_le hx5 ks2.kept.size) hXF3).trans hR) trivial
    · intro us v hR hn ho K hK
      clear ho
      rw [if_pos (by rfl)]
      go_simp
      refine hK _ _ _ (by simp only [Act.put, List.setIfInBounds_toArray, List.set_cons_zero, List.set_cons_succ, Nat.reduceAdd] <;> rfl) ?_ hR ⟨fun h => h, fun h => h, trivial⟩
      refine only_mk (v := v) ?_
      with_reducible rfl
    · intro us v hR hn ho K hK
      obtain ⟨n6, -⟩ := hn
      have n6 : us 6 = _ := n6
      clear ho
      rw [if_pos (by rfl)]
      go_simp
      refine hK _ _ _ (by simp only [Act.put, List.setIfInBounds_toArray, List.set_cons_zero, List.set_cons_succ, Nat.reduceAdd, n6] <;> rfl) ?_ hR ⟨fun h => h, fun h => h, trivial⟩
      refine only_mk (v := v) ?_
      with_reducible rfl
    · intro us v hR hn ho K hK
      obtain ⟨n5, n7, -⟩ := hn
      have n7 : us 7 = _ := n7
      clear ho
      obtain ⟨F4, A4, c4', n5, hv4, ht4⟩ := n5
      refine step_append_vec _ (by rfl) (.tmp 29) (.tmp 31) 118 9 (by rfl) 5 i0 _ 1 1 Tryz.underlying118 hi0 hz0 hz1 hz2 rfl F4 A4 23 c4' _ (.string b) b.size (byteCells b) n5 n7 hv4 (Src.ofString _ Tryz.underlying9 b) (by unfold maxLen; omega) (by omega) ?_
      intro v7 w7 hap7
      obtain ⟨F5, A5, c5', rfl, hv5, ht5⟩ := hap7.all
      refine hK _ _ _ (by simp only [Act.put, List.setIfInBounds_toArray, List.set_cons_zero, List.set_cons_succ, Nat.reduceAdd, n7] <;> rfl) ⟨F5, A5, c5', rfl, hv5, ht4.trans ht5⟩ ((ht5.kept.cell (p := ⟨w.heap.size, 4, none⟩) (Nat.lt_of_lt_of_le hx5 ht4.kept.size) (ht4.apart hx5 hXF3)).trans hR) trivial
    · intro us v hR hn ho K hK
      obtain ⟨n8, -⟩ := hn
      clear ho
      obtain ⟨F5, A5, c5, e8, k8, t8⟩ := n8
      rw [if_pos (by rfl)]
      go_simp
      refine hK _ _ _ (by simp only [Act.put, List.setIfInBounds_toArray, List.set_cons_zero, List.set_cons_succ, Nat.reduceAdd, e8] <;> rfl) ⟨F5, A5, c5, rfl, k8, t8⟩ hR ⟨fun h => h, trivial⟩
  case hla =>
    intro us v hR hl
    obtain ⟨n0, n1, n2, n3, n4, n6, n7, n8, n9, -⟩ := need_last hl [0, 1, 2, 3, 4, 6, 7, 8, 9] (by kernel_rfl)
    have n0 : us 0 = _ := n0
    have n1 : us 1 = _ := n1
    have n2 : us 2 = _ := n2
    have n3 : us 3 = _ := n3
    have n4 : us 4 = _ := n4
    have n6 : us 6 = _ := n6
    have n7 : us 7 = _ := n7
    simp only [n0, n1, n2, n3, n4, n6, n7]
    clear hl n0 n1 n2 n3 n4 n6 n7
    obtain ⟨F5, A5, c5, e9, hv5, ht5⟩ := n9
    obtain ⟨_, _, _, e8, _⟩ := n8
    simp only [e8, e9]
    clear n2 n3 n4
    clear n0 hwb
    obtain ⟨L5, hL5⟩ : ∃ L5 : List UInt8, L5 = L4 ++ b.data.toList := ⟨_, rfl⟩
    have e5 : L4.map bv ++ byteCells b = L5.map bv := by rw [hL5, List.map_append]; rfl
    rw [e5] at hv5
    have hl5 : L5.length = 23 + b.size := by rw [hL5, List.length_append, Hl4.out]; simp
    have hb2 : Below w.heap.size w w2 := (((Below.refl w.heap.size w).alloc (Nat.le_refl _) _).trans (hb.mono (by simp))).trans (ha0.mono (Nat.le_of_lt hsz))
    have ht2' := (HT3.out.trans ht5).below (B := w.heap.size) (Nat.le_of_lt hx2) (by simp; omega)
    have hbv : Below w.heap.size w v := hb2.trans ht2'.1
    obtain ⟨n, hn⟩ : ∃ n, n = 23 + b.size := ⟨_, rfl⟩
    rw [← hn] at hv5
    simp only [← hn]
    have hn0 : 0 < n := by omega
    have hn1 : n ≤ 87 := by omega
    have hsz5 : (⟨L5.toArray⟩ : ByteArray).size = n := by rw [hn, ← hl5]; rfl
    have HL5 := Lib.hid hL5
    have HS5 := Lib.hid hsz5
    have hlen : (⟨L5.toArray⟩ : ByteArray).size + (Crc.tail (Crc.sum L5)).length ≤ 100 := by rw [hsz5, Crc.tail_length]; omega
    have hl6 : L5.length + (Crc.tail (Crc.sum L5)).length ≤ 100 := by rw [hl5, Crc.tail_length]; omega
    have hle : (⟨L5.toArray⟩ : ByteArray).size ≤ 100 := by omega
    have HV5 := Lib.hid (show TabAt v.drew ∧ Vec v.drew F5 1 A5 n c5 (L5.map bv) ∧ Below w.heap.size w v.drew from ⟨ht.below (below_drewN hbv 1) hp, hv5.drew, below_drewN hbv 1⟩)
    clear e5 hl5 hn hL5 hsz5 e9 e8
    go_wp2_with fail
    refine' wp_flow [only 0 _, only 1 _, only 2 _, only 3 _, only 4 (.int .u32 (val (Crc.sum L5))), only 5 (.string ⟨(Crc.tail (Crc.sum L5)).toArray⟩), only 6 _, only 7 _, only 8 _] (fun v => TabAt v ∧ Vec v F5 1 A5 n c5 (L5.map bv) ∧ Below w.heap.size w v) [[], [0], [], [2], [3], [4], [1, 5], [6], []] [[], [], [], [], [], [], [], [], []] [[], [], [], [], [], [], [], [], []] [[], [], [], [], [], [], [], [], []] [] [0, 1, 0, 4, 12, 28, 63, 127, 127] _ (fun us => ?hfr) (by kernel_rfl) (by kernel_rfl) (by kernel_rfl) ⟨only_still _, only_still _, only_still _, only_still _, only_still _, only_still _, only_still _, only_still _, only_still _, trivial⟩ (HV5.out) (by simp) (trivial) ?hst ?hla
    case hfr => (simp only [List.cons_append, List.nil_append, putAll, Act.put, List.setIfInBounds_toArray, List.set_cons_zero, List.set_cons_succ, Nat.reduceAdd]; rfl)
    case hst =>
      refine ⟨?_, ?_, ?_, ?_, ?_, ?_, ?_, ?_, ?_, trivial⟩
      · intro us v hR hn ho K hK
        clear ho
        obtain ⟨r1, r2, r3⟩ := id hR
        rw [if_pos (by rfl)]
        go_simp
        refine hK _ _ _ (by simp only [Act.put, List.setIfInBounds_toArray, List.set_cons_zero, List.set_cons_succ, Nat.reduceAdd] <;> rfl) ?_ hR trivial
        refine only_mk (v := v) ?_
        with_reducible rfl
      · intro us v hR hn ho K hK
        obtain ⟨n0, -⟩ := hn
        have n0 : us 0 = _ := n0
        clear ho
        obtain ⟨r1, r2, r3⟩ := id hR
        have hcv := conv_vec r2 hn0
        rw [if_pos (by rfl)]
        go_simp
        refine hK _ _ _ (by simp only [Act.put, List.setIfInBounds_toArray, List.set_cons_zero, List.set_cons_succ, Nat.reduceAdd, n0] <;> rfl) ?_ hR trivial
        refine only_mk (v := v) ?_
        with_reducible rfl
      · intro us v hR hn ho K hK
        clear ho
        obtain ⟨r1, r2, r3⟩ := id hR
        rw [if_pos (by rfl)]
        go_simp
        refine hK _ _ _ (by simp only [Act.put, List.setIfInBounds_toArray, List.set_cons_zero, List.set_cons_succ, Nat.reduceAdd] <;> rfl) ?_ hR trivial
        refine only_mk (v := v) ?_
        with_reducible rfl
      · intro us v hR hn ho K hK
        obtain ⟨n2, -⟩ := hn
        have n2 : us 2 = _ := n2
        clear ho
        obtain ⟨r1, r2, r3⟩ := id hR
        have hcv := conv_vec r2 hn0
        rw [if_pos (by rfl)]
        go_simp
        refine hK _ _ _ (by simp only [Act.put, List.setIfInBounds_toArray, List.set_cons_zero, List.set_cons_succ, Nat.reduceAdd, n2] <;> rfl) ?_ hR trivial
        refine only_mk (v := v) ?_
        with_reducible rfl
      · intro us v hR hn ho K hK
        obtain ⟨n3, -⟩ := hn
        have n3 : us 3 = _ := n3
        clear ho
        obtain ⟨r1, r2, r3⟩ := id hR
        rw [if_pos (by rfl)]
        go_simp
        with_reducible refine (sum_any _ _ (by unfold maxLen; omega) r1).mono ?_
        rintro e v' ⟨rfl, rfl⟩
        dsimp only
        exact hK _ _ _ (by simp only [Act.put, List.setIfInBounds_toArray, List.set_cons_zero, List.set_cons_succ, Nat.reduceAdd, n3] <;> rfl) rfl hR trivial
      · intro us v hR hn ho K hK
        obtain ⟨n4, -⟩ := hn
        have n4 : us 4 = _ := n4
        clear ho
        obtain ⟨r1, r2, r3⟩ := id hR
        rw [if_pos (by rfl)]
        go_simp
        with_reducible refine (tail_any _ _).mono ?_
        rintro e v' ⟨rfl, hbt⟩
        dsimp only
        exact hK _ _ _ (by simp only [Act.put, List.setIfInBounds_toArray, List.set_cons_zero, List.set_cons_succ, Nat.reduceAdd, n4] <;> rfl) rfl ⟨r1.below hbt r1.pos, r2.after hbt, r3.trans (hbt.mono r3.size)⟩ trivial
      · intro us v hR hn ho K hK
        obtain ⟨n1, n5, -⟩ := hn
        have n1 : us 1 = _ := n1
        have n5 : us 5 = _ := n5
        clear ho
        obtain ⟨r1, r2, r3⟩ := id hR
        have hl7 : ¬ (9223372036854775807 < L5.length + (Crc.tail (Crc.sum L5)).length) := by omega
        rw [if_pos (by rfl)]
        go_simp
        refine hK _ _ _ (by simp only [Act.put, List.setIfInBounds_toArray, List.set_cons_zero, List.set_cons_succ, Nat.reduceAdd, n1, n5] <;> rfl) ?_ hR trivial
        refine only_mk (v := v) ?_
        with_reducible rfl
      · intro us v hR hn ho K hK
        obtain ⟨n6, -⟩ := hn
        have n6 : us 6 = _ := n6
        clear ho
        obtain ⟨r1, r2, r3⟩ := id hR
        rw [if_pos (by rfl)]
        go_simp
        refine hK _ _ _ (by simp only [Act.put, List.setIfInBounds_toArray, List.set_cons_zero, List.set_cons_succ, Nat.reduceAdd, n6] <;> rfl) ?_ hR trivial
        refine only_mk (v := v) ?_
        with_reducible rfl
      · intro us v hR hn ho K hK
        clear ho
        obtain ⟨r1, r2, r3⟩ := id hR
        rw [if_pos (by rfl)]
        go_simp
        refine hK _ _ _ (by simp only [Act.put, List.setIfInBounds_toArray, List.set_cons_zero, List.set_cons_succ, Nat.reduceAdd] <;> rfl) ?_ hR trivial
        refine only_mk (v := v) ?_
        with_reducible rfl
    case hla =>
      intro us v hR hl
      obtain ⟨n0, n1, n2, n3, n4, n5, n6, n7, n8, -⟩ := need_last hl [0, 1, 2, 3, 4, 5, 6, 7, 8] (by kernel_rfl)
      have n0 : us 0 = _ := n0
      have n1 : us 1 = _ := n1
      have n2 : us 2 = _ := n2
      have n3 : us 3 = _ := n3
      have n4 : us 4 = _ := n4
      have n5 : us 5 = _ := n5
      have n6 : us 6 = _ := n6
      have n7 : us 7 = _ := n7
      have n8 : us 8 = _ := n8
      obtain ⟨r1, r2, r3⟩ := id hR
      simp only [n0, n1, n2, n3, n4, n5, n6, n7, n8]
      clear hl n0 n1 n2 n3 n4 n5 n6 n7 n8
      go_wp2_with fail
      go_ret2
      have e : (⟨L5.toArray⟩ : ByteArray) ++ ⟨(Crc.tail (Crc.sum L5)).toArray⟩ = ⟨(put ⟨(k : Int), (ep : Int), (sq : Int), (ak : Int), b⟩).toArray⟩ := by
        have h5 : L5 = head ⟨(k : Int), (ep : Int), (sq : Int), (ak : Int), b⟩ := by
          rw [HL5.out, HL4.out, HL3.out, HL2.out, HL1.out, HL0.out]; simp [head]
        unfold put
        rw [← h5]
        apply ByteArray.ext; simp
      exact ⟨ret_si e, r3⟩
end
end Go.Proofs.YtihhflajkohibaaGreatDoor.Frame
/- Layer 6: the references High, Number, Right and the frame's Same. Conditions: at most 8 bytes of a number. -/
namespace Go.Proofs.YtihhflajkohibaaGreatDoor.Frame
set_option linter.unusedSimpArgs false
set_option linter.unusedVariables false
set_option maxRecDepth 100000
open Go.RowKit
open Go.Proofs.YtihhflajkohibaaGreatDoor
open Go.Proofs.YtihhflajkohibaaGreatDoor.Link (Fr right_is right_any frBox bcell ret_bool empty_size)

theorem cutN_zero (n : Nat) : (n : Int) = cutN n 0 := by simp [cutN]
theorem cutN_succ (n j : Nat) : cutN n j / 256 = cutN n (j + 1) := by
  unfold cutN
  rw [Nat.pow_succ, ← Nat.div_div_eq_div_mul]; omega
theorem cutN_nonneg (n j : Nat) : 0 ≤ cutN n j := Int.natCast_nonneg _
theorem cutN_strs (n j : Nat) : strOfNums [cutN n j % 256] ++ ⟨(hi n j).toArray⟩ = ⟨(hi n (j + 1)).toArray⟩ := by
  have e : strOfNums [cutN n j % 256] = ⟨[Crc.b8 (n / 256 ^ j)].toArray⟩ := by
    unfold strOfNums cutN
    congr 2
    simp only [List.map_cons, List.map_nil]
    rw [show (((n / 256 ^ j : Nat) : Int) % 256).toNat = (n / 256 ^ j) % 256 from by omega]
    congr 1
    apply UInt8.toNat_inj.1
    simp [Crc.b8]
  rw [e]; rfl
theorem cutN_size (n j : Nat) (x : Int) (h : j ≤ 8) : (strOfNums [x]).size + (hi n j).length ≤ 9 := by
  rw [strOfNums_size, hi_length]; simp; omega
theorem cutN_quo (n j : Nat) (hn : n < 18446744073709551616) : IntKind.u64.wrap ((cutN n j).tdiv 256) = cutN n (j + 1) := by
  rw [Int.tdiv_eq_ediv_of_nonneg (cutN_nonneg n j), cutN_succ, IntKind.wrap_u64]
  have h : n / 256 ^ (j + 1) ≤ n := Nat.div_le_self ..
  unfold cutN
  generalize n / 256 ^ (j + 1) = q at *
  omega
theorem add_step (l : List UInt8) (h : l.length ≤ 7) (c : UInt8) : IntKind.u64.wrap (IntKind.u64.wrap (numI l * 256) + IntKind.u64.wrap (c.toNat : Int)) = numI (l ++ [c]) := by
  have h1 := num_lt l
  have h2 : 256 ^ l.length ≤ 256 ^ 7 := Nat.pow_le_pow_right (by decide) h
  have hc := c.toNat_lt
  rw [IntKind.wrap_u64, IntKind.wrap_u64, IntKind.wrap_u64, numI_snoc]
  unfold numI
  omega
section
attribute [local go_sem] conv1
set_option maxRecDepth 100000 in
set_option maxHeartbeats 1000000 in
theorem high_any (n many : Nat) (hm : many ≤ 8) (hn : n < 18446744073709551616) (w : World) :
    Calls Tryz.prog 70 #[.int .u64 (n : Int), .int .i64 (many : Int)] w fun e w' => e = .returned (.string ⟨(hi n many).toArray⟩) ∧ Below w.heap.size w w' := by
  rw [cutN_zero]
  have HNN := Lib.hid hn
  clear hn
  go_enter Tryz.func70, Tryz.ntmps70
  go_wp2_with fail
  go_loopw [0, 5, 6] (fun m out i wr => ∃ j : Nat, j ≤ many ∧ i = .int .i64 j ∧ m = .int .u64 (cutN n j) ∧ out = .string ⟨(hi n j).toArray⟩ ∧ Below w.heap.size w wr) (fun _ _ i _ => many - (intOf i).toNat)
  case atStart => exact ⟨0, by omega, rfl, rfl, rfl, Below.refl _ _⟩
  case round =>
    obtain ⟨j, hj, rfl, rfl, rfl, hb⟩ := hrel
    have hq0 := cutN_nonneg n j
    by_cases hlt : j < many
    · have hsz := cutN_size n j (cutN n j % 256) (by omega)
      go_wp2_with fail
      go_roundw
      case rel => exact ⟨j + 1, by omega, by go_num, by rw [cutN_quo n j HNN.out], by rw [cutN_strs], hb.alloc hb.size _⟩
      case measure => simp [intOf]; omega
    · obtain rfl : j = many := by omega
      go_wp2_with fail
      go_ret
      exact ⟨rfl, hb⟩
end
set_option maxRecDepth 100000 in
set_option maxHeartbeats 1000000 in
theorem number_ref (s : ByteArray) (w : World) (hs : s.size ≤ 8) :
    Calls Tryz.prog 77 #[.string s] w fun e w' => e = .returned (.int .u64 (numI s.data.toList)) ∧ w = w' := by
  have hN : s.data.toList.length = s.size := by simp
  have HN := Lib.hid hN
  clear hN
  go_enter Tryz.func77, Tryz.ntmps77
  go_wp2_with fail
  go_loop [3, 4] (fun m i => ∃ j : Nat, j ≤ s.size ∧ i = .int .i64 j ∧ m = .int .u64 (numI (s.data.toList.take j))) (fun _ i => s.size - (intOf i).toNat)
  case atStart => exact ⟨0, by omega, rfl, rfl⟩
  case round =>
    obtain ⟨j, hj, rfl, rfl⟩ := hrel
    by_cases hlt : j < s.size
    · have hst := add_step (s.data.toList.take j) (by rw [List.length_take, HN.out]; omega) (s[j])
      have e : s.data.toList.take (j + 1) = s.data.toList.take j ++ [s[j]] := by
        rw [List.take_succ_eq_append_getElem (by rw [HN.out]; exact hlt)]; rfl
      rw [← e] at hst
      have HST := Lib.hid hst
      clear hst e
      go_wp2_with fail
      go_round
      case rel => exact ⟨j + 1, by omega, by go_num, by rw [HST.out]⟩
      case measure => simp [intOf]; omega
    · obtain rfl : j = s.size := by omega
      go_wp2_with fail
      go_ret
      exact ⟨ret_int (by rw [List.take_of_length_le (by rw [HN.out]; exact Nat.le_refl _)]), rfl⟩
/-- the reference's Right -/
theorem refRight_any (f : Fr) (w : World) :
    Calls Tryz.prog 42 #[f.val] w fun e w' => e = .returned (.bool f.right) ∧ Below w.heap.size w w' := by
  obtain ⟨k, ep, sq, ak, b⟩ := f
  have hbl := (Below.refl w.heap.size w).alloc (Nat.le_refl _) (.cells #[.int .i64 k, .int .i64 ep, .int .u64 sq, .int .u64 ak, .string b] 83)
  have HBL := Lib.hid hbl
  have hsz := empty_size b
  clear hbl
  unfold Fr.val
  by_cases a1 : ep < 0
  · have d1 : decide (ep < 0) = true := by simpa using a1
    rw [show Fr.right ⟨k, ep, sq, ak, b⟩ = false from by simp only [Fr.right, true_and, true_or, and_true]; first | (apply decide_eq_true; omega) | (apply decide_eq_false; omega)]
    go_enter Tryz.func42, Tryz.ntmps42
    go_wp2
    go_ret
    exact ⟨rfl, HBL.out⟩
  have d1 : decide (ep < 0) = false := by simp; omega
  by_cases a2 : 65535 < ep
  · have d2 : decide (65535 < ep) = true := by simpa using a2
    rw [show Fr.right ⟨k, ep, sq, ak, b⟩ = false from by simp only [Fr.right, true_and, true_or, and_true]; first | (apply decide_eq_true; omega) | (apply decide_eq_false; omega)]
    go_enter Tryz.func42, Tryz.ntmps42
    go_wp2
    go_ret
    exact ⟨rfl, HBL.out⟩
  have d2 : decide (65535 < ep) = false := by simp; omega
  by_cases a3 : 64 < b.size
  · have d3 : decide (64 < (b.size : Int)) = true := by simp; omega
    rw [show Fr.right ⟨k, ep, sq, ak, b⟩ = false from by simp only [Fr.right, true_and, true_or, and_true]; first | (apply decide_eq_true; omega) | (apply decide_eq_false; omega)]
    go_enter Tryz.func42, Tryz.ntmps42
    go_wp2
    go_ret
    exact ⟨rfl, HBL.out⟩
  have d3 : decide (64 < (b.size : Int)) = false := by simp; omega
  by_cases h1 : k = 1
  · subst h1
    rw [show Fr.right ⟨1, ep, sq, ak, b⟩ = true from by simp only [Fr.right, true_and, true_or, and_true]; first | (apply decide_eq_true; omega) | (apply decide_eq_false; omega)]
    go_enter Tryz.func42, Tryz.ntmps42
    go_wp2
    go_ret
    exact ⟨rfl, HBL.out⟩
  have k1 : (k == 1) = false := beq_eq_false_iff_ne.2 h1
  by_cases h2 : k = 2
  · subst h2
    by_cases a4 : b.size = 0
    · rw [decide_eq_true a4] at hsz
      rw [show Fr.right ⟨2, ep, sq, ak, b⟩ = true from by simp only [Fr.right, true_and, true_or, and_true]; first | (apply decide_eq_true; omega) | (apply decide_eq_false; omega)]
      go_enter Tryz.func42, Tryz.ntmps42
      go_wp2
      go_ret
      exact ⟨rfl, HBL.out⟩
    · rw [decide_eq_false a4] at hsz
      rw [show Fr.right ⟨2, ep, sq, ak, b⟩ = false from by simp only [Fr.right, true_and, true_or, and_true]; first | (apply decide_eq_true; omega) | (apply decide_eq_false; omega)]
      go_enter Tryz.func42, Tryz.ntmps42
      go_wp2
      go_ret
      exact ⟨rfl, HBL.out⟩
  · have k2 : (k == 2) = false := beq_eq_false_iff_ne.2 h2
    rw [show Fr.right ⟨k, ep, sq, ak, b⟩ = false from by simp only [Fr.right, true_and, true_or, and_true]; first | (apply decide_eq_true; omega) | (apply decide_eq_false; omega)]
    go_enter Tryz.func42, Tryz.ntmps42
    go_wp2
    go_ret
    exact ⟨rfl, HBL.out⟩
end Go.Proofs.YtihhflajkohibaaGreatDoor.Frame
/- Layer 6: the reference Put hands back a frame's bytes. Conditions: a frame that may be, numbers without sign. -/
namespace Go.Proofs.YtihhflajkohibaaGreatDoor.Frame
set_option linter.unusedSimpArgs false
set_option linter.unusedVariables false
set_option maxRecDepth 100000
open Go.RowKit
open Go.Proofs.YtihhflajkohibaaGreatDoor
open Go.Proofs.YtihhflajkohibaaGreatDoor.Link (Fr right_is right_any frBox bcell ret_bool empty_size)

theorem cat_size (a b : ByteArray) : (a ++ b).size = a.size + b.size := by simp
theorem high_is (n many : Nat) (hm : many ≤ 8) (hn : n < 18446744073709551616) (n' m' : Int) (hn' : n' = (n : Int)) (hm' : m' = (many : Int)) (E : ByteArray) (hE : E = ⟨(hi n many).toArray⟩) (w : World) :
    Calls Tryz.prog 70 #[.int .u64 n', .int .i64 m'] w fun e w' => e = .returned (.string E) ∧ Below w.heap.size w w' := by
  subst hn' hm' hE; exact high_any n many hm hn w
theorem refTail_is (sum : BitVec 32) (n' : Int) (hn : n' = val sum) (E : ByteArray) (hE : E = ⟨(Crc.tail sum).toArray⟩) (w : World) :
    Calls Tryz.prog 71 #[.int .u32 n'] w fun e w' => e = .returned (.string E) ∧ Below w.heap.size w w' := by
  subst hn hE; exact refTail_any sum w
theorem refSum_is (s : ByteArray) (w : World) (hs : s.size ≤ maxLen) :
    Calls Tryz.prog 72 #[.int .u32 0, .string s] w fun e w' => e = .returned (.int .u32 (val (Crc.sum s.data.toList))) ∧ w = w' := by
  have h := refMore_any 0 s w hs
  rw [show val 0 = 0 from rfl] at h
  exact h
theorem ba_append (l m : List UInt8) : (⟨l.toArray⟩ : ByteArray) ++ ⟨m.toArray⟩ = ⟨(l ++ m).toArray⟩ := by apply ByteArray.ext; simp
theorem ba_size (l : List UInt8) : (⟨l.toArray⟩ : ByteArray).size = l.length := rfl
theorem ret_s {a b : ByteArray} (h : a = b) : Ending.returned (.string a) = .returned (.string b) := by rw [h]
set_option maxRecDepth 100000 in
set_option maxHeartbeats 4000000 in
theorem refPut_any (k ep sq ak : Nat) (b : ByteArray) (w : World) (hr : Fr.right ⟨(k : Int), (ep : Int), (sq : Int), (ak : Int), b⟩ = true) (hsq : sq < 18446744073709551616) (hak : ak < 18446744073709551616) :
    Calls Tryz.prog 44 #[.agg #[.int .i64 (k : Int), .int .i64 (ep : Int), .int .u64 (sq : Int), .int .u64 (ak : Int), .string b]] w fun e w' => e = .returned (.string ⟨(put ⟨(k : Int), (ep : Int), (sq : Int), (ak : Int), b⟩).toArray⟩) ∧ Below w.heap.size w w' := by
  obtain ⟨q0, q1, q2, q3⟩ := right_iff.1 hr
  have q1 : ep ≤ 65535 := by simp only at q1; omega
  have q2 : b.size ≤ 64 := q2
  have q4 : k ≤ 2 := by simp only at q3; omega
  clear hr q0 q3
  obtain ⟨B0, hB0⟩ : ∃ B0 : ByteArray, B0 = ⟨([1, Crc.b8 k] : List UInt8).toArray⟩ := ⟨_, rfl⟩
  obtain ⟨E1, hE1⟩ : ∃ E : ByteArray, E = ⟨(hi ep 2).toArray⟩ := ⟨_, rfl⟩
  obtain ⟨E2, hE2⟩ : ∃ E : ByteArray, E = ⟨(hi sq 8).toArray⟩ := ⟨_, rfl⟩
  obtain ⟨E3, hE3⟩ : ∃ E : ByteArray, E = ⟨(hi ak 8).toArray⟩ := ⟨_, rfl⟩
  obtain ⟨E4, hE4⟩ : ∃ E : ByteArray, E = ⟨(hi b.size 2).toArray⟩ := ⟨_, rfl⟩
  obtain ⟨T0, hT0⟩ : ∃ T : ByteArray, T = ⟨#[78]⟩ ++ B0 := ⟨_, rfl⟩
  obtain ⟨T1, hT1⟩ : ∃ T : ByteArray, T = T0 ++ E1 := ⟨_, rfl⟩
  obtain ⟨T2, hT2⟩ : ∃ T : ByteArray, T = T1 ++ E2 := ⟨_, rfl⟩
  obtain ⟨T3, hT3⟩ : ∃ T : ByteArray, T = T2 ++ E3 := ⟨_, rfl⟩
  obtain ⟨T4, hT4⟩ : ∃ T : ByteArray, T = T3 ++ E4 := ⟨_, rfl⟩
  obtain ⟨T5, hT5⟩ : ∃ T : ByteArray, T = T4 ++ b := ⟨_, rfl⟩
  have s0 : B0.size ≤ 2 := by rw [hB0]; exact Nat.le_refl _
  have s1 : E1.size ≤ 2 := by rw [hE1, ba_size, hi_length]; exact Nat.le_refl _
  have s2 : E2.size ≤ 8 := by rw [hE2, ba_size, hi_length]; exact Nat.le_refl _
  have s3 : E3.size ≤ 8 := by rw [hE3, ba_size, hi_length]; exact Nat.le_refl _
  have s4 : E4.size ≤ 2 := by rw [hE4, ba_size, hi_length]; exact Nat.le_refl _
  have t0 : T0.size ≤ 3 := by
    rw [hT0, cat_size]; have : (⟨#[78]⟩ : ByteArray).size = 1 := rfl
    omega
  have t1 : T1.size ≤ 5 := by rw [hT1, cat_size]; omega
  have t2 : T2.size ≤ 13 := by rw [hT2, cat_size]; omega
  have t3 : T3.size ≤ 21 := by rw [hT3, cat_size]; omega
  have t4 : T4.size ≤ 23 := by rw [hT4, cat_size]; omega
  have t5 : T5.size ≤ 87 := by rw [hT5, cat_size]; omega
  have hh : T5.data.toList = head ⟨(k : Int), (ep : Int), (sq : Int), (ak : Int), b⟩ := by
    rw [hT5, hT4, hT3, hT2, hT1, hT0, hB0, hE1, hE2, hE3, hE4]
    simp [head]
  have HB0 := Lib.hid hB0
  have HE1 := Lib.hid hE1
  have HE2 := Lib.hid hE2
  have HE3 := Lib.hid hE3
  have HE4 := Lib.hid hE4
  have HT0 := Lib.hid hT0
  have HT1 := Lib.hid hT1
  have HT2 := Lib.hid hT2
  have HT3 := Lib.hid hT3
  have HT4 := Lib.hid hT4
  have HT5 := Lib.hid hT5
  have HH := Lib.hid hh
  have HE1n := Lib.hid (show ep < 18446744073709551616 by omega)
  have HE2n := Lib.hid hsq
  have HE3n := Lib.hid hak
  have HE4n := Lib.hid (show b.size < 18446744073709551616 by omega)
  clear hB0 hE1 hE2 hE3 hE4 hT0 hT1 hT2 hT3 hT4 hT5 hh hsq hak
  have hwb : IntKind.u64.wrap (b.size : Int) = (b.size : Int) := IntWalk.u64_in _ (by omega)
  have hwe : IntKind.u64.wrap (ep : Int) = (ep : Int) := IntWalk.u64_in _ (by omega)
  have hwk : (k : Int) % 256 = (k : Int) := by omega
  have hwk2 : IntKind.u8.wrap (k : Int) = (k : Int) := IntWalk.u8_in _ (by omega)
  have hal : Below w.heap.size w (w.alloc (.cells #[.int .i64 (k : Int), .int .i64 (ep : Int), .int .u64 (sq : Int), .int .u64 (ak : Int), .string b] 83)) := (Below.refl _ _).alloc (Nat.le_refl _) _
  have HAL := Lib.hid hal
  clear hal
  go_enter Tryz.func44, Tryz.ntmps44
  go_wp2_with fail
  have HR0 := Lib.hid (show _ ∧ _ ∧ _ ∧ _ ∧ _ ∧ Below w.heap.size w (w.alloc (.cells #[.int .i64 (k : Int), .int .i64 (ep : Int), .int .u64 (sq : Int), .int .u64 (ak : Int), .string b] 83)).drew ∧ w.heap.size < (w.alloc (.cells #[.int .i64 (k : Int), .int .i64 (ep : Int), .int .u64 (sq : Int), .int .u64 (ak : Int), .string b] 83)).drew.heap.size from ⟨show (w.alloc (.cells #[.int .i64 (k : Int), .int .i64 (ep : Int), .int .u64 (sq : Int), .int .u64 (ak : Int), .string b] 83)).drew.cell? ⟨w.heap.size, 0, none⟩ = some (.int .i64 (k : Int)) by simp, show (w.alloc (.cells #[.int .i64 (k : Int), .int .i64 (ep : Int), .int .u64 (sq : Int), .int .u64 (ak : Int), .string b] 83)).drew.cell? ⟨w.heap.size, 1, none⟩ = some (.int .i64 (ep : Int)) by simp, show (w.alloc (.cells #[.int .i64 (k : Int), .int .i64 (ep : Int), .int .u64 (sq : Int), .int .u64 (ak : Int), .string b] 83)).drew.cell? ⟨w.heap.size, 2, none⟩ = some (.int .u64 (sq : Int)) by simp, show (w.alloc (.cells #[.int .i64 (k : Int), .int .i64 (ep : Int), .int .u64 (sq : Int), .int .u64 (ak : Int), .string b] 83)).drew.cell? ⟨w.heap.size, 3, none⟩ = some (.int .u64 (ak : Int)) by simp, show (w.alloc (.cells #[.int .i64 (k : Int), .int .i64 (ep : Int), .int .u64 (sq : Int), .int .u64 (ak : Int), .string b] 83)).drew.cell? ⟨w.heap.size, 4, none⟩ = some (.string b) by simp, HAL.out.drew, by simp⟩)
  refine' wp_flow [only 0 _, only 1 _, only 2 _, own 3 (fun x v => ∃ g c, x = .slice (some ⟨g, 0, none⟩) 2 c ∧ Vec v [g] 1 (some ⟨g, 0, none⟩) 2 c (([1, Crc.b8 k] : List UInt8).map bv)), only 4 (.string B0), only 5 (.string T0), only 6 _, only 7 _, only 8 _, only 9 (.string E1), only 10 (.string T1), only 11 _, only 12 _, only 13 (.string E2), only 14 (.string T2), only 15 _, only 16 _, only 17 (.string E3), only 18 (.string T3), only 19 _, only 20 _, only 21 _, only 22 _, only 23 (.string E4), only 24 (.string T4), only 25 _, only 26 _, only 27 (.string T5), only 28 _] (fun v => v.cell? ⟨w.heap.size, 0, none⟩ = some (.int .i64 (k : Int)) ∧ v.cell? ⟨w.heap.size, 1, none⟩ = some (.int .i64 (ep : Int)) ∧ v.cell? ⟨w.heap.size, 2, none⟩ = some (.int .u64 (sq : Int)) ∧ v.cell? ⟨w.heap.size, 3, none⟩ = some (.int .u64 (ak : Int)) ∧ v.cell? ⟨w.heap.size, 4, none⟩ = some (.string b) ∧ Below w.heap.size w v ∧ w.heap.size < v.heap.size) [[], [0], [1], [2], [3], [4], [], [6], [7], [8], [5, 9], [], [11], [12], [10, 13], [], [15], [16], [14, 17], [], [19], [20], [21], [22], [18, 23], [], [25], [24, 26], [27]] [[], [], [], [], [3], [], [], [], [], [], [], [], [], [], [], [], [], [], [], [], [], [], [], [], [], [], [], [], []] [[], [], [], [], [], [], [], [], [], [], [], [], [], [], [], [], [], [], [], [], [], [], [], [], [], [], [], [], []] [[], [], [], [], [], [], [3], [3], [3], [3], [], [3], [3], [3], [], [3], [3], [3], [], [3], [3], [3], [3], [3], [], [3], [3], [], []] [3] [0, 1, 3, 7, 15, 31, 0, 64, 192, 448, 1023, 0, 2048, 6144, 16383, 0, 32768, 98304, 262143, 0, 524288, 1572864, 3670016, 7864320, 16777215, 0, 33554432, 134217727, 268435455] _ (fun us => ?hfr) (by kernel_rfl) (by kernel_rfl) (by kernel_rfl) ⟨only_still _, only_still _, only_still _, trivial, only_still _, only_still _, only_still _, only_still _, only_still _, only_still _, only_still _, only_still _, only_still _, only_still _, only_still _, only_still _, only_still _, only_still _, only_still _, only_still _, only_still _, only_still _, only_still _, only_still _, only_still _, only_still _, only_still _, only_still _, only_still _, trivial⟩ (HR0.out) (by simp) (trivial) ?hst ?hla
  case hfr => (simp only [List.cons_append, List.nil_append, putAll, Act.put, List.setIfInBounds_toArray, List.set_cons_zero, List.set_cons_succ, Nat.reduceAdd]; rfl)
  case hst =>
    refine ⟨?_, ?_, ?_, ?_, ?_, ?_, ?_, ?_, ?_, ?_, ?_, ?_, ?_, ?_, ?_, ?_, ?_, ?_, ?_, ?_, ?_, ?_, ?_, ?_, ?_, ?_, ?_, ?_, ?_, trivial⟩
    · intro us v hR hn ho K hK
      clear ho
      obtain ⟨r0, r1, r2, r3, r4, r5, r6⟩ := id hR
      rw [if_pos (by rfl)]
      go_simp
      refine hK _ _ _ (by simp only [Act.put, List.setIfInBounds_toArray, List.set_cons_zero, List.set_cons_succ, Nat.reduceAdd] <;> rfl) ?_ hR trivial
      refine only_mk (v := v) ?_
      with_reducible rfl
    · intro us v hR hn ho K hK
      obtain ⟨n0, -⟩ := hn
      have n0 : us 0 = _ := n0
      clear ho
      obtain ⟨r0, r1, r2, r3, r4, r5, r6⟩ := id hR
      rw [if_pos (by rfl)]
      go_simp
      refine hK _ _ _ (by simp only [Act.put, List.setIfInBounds_toArray, List.set_cons_zero, List.set_cons_succ, Nat.reduceAdd, n0] <;> rfl) ?_ hR trivial
      refine only_mk (v := v) ?_
      with_reducible rfl
    · intro us v hR hn ho K hK
      obtain ⟨n1, -⟩ := hn
      have n1 : us 1 = _ := n1
      clear ho
      obtain ⟨r0, r1, r2, r3, r4, r5, r6⟩ := id hR
      rw [if_pos (by rfl)]
      go_simp
      refine hK _ _ _ (by simp only [Act.put, List.setIfInBounds_toArray, List.set_cons_zero, List.set_cons_succ, Nat.reduceAdd, n1] <;> rfl) ?_ hR trivial
      refine only_mk (v := v) ?_
      with_reducible rfl
    · intro us v hR hn ho K hK
      obtain ⟨n2, -⟩ := hn
      have n2 : us 2 = _ := n2
      clear ho
      obtain ⟨r0, r1, r2, r3, r4, r5, r6⟩ := id hR
      rw [if_pos (by rfl)]
      go_simp
      have hal : Below v.heap.size v (v.alloc (.cells #[.int .u8 1, .int .u8 (k : Int)] 5)) := (Below.refl _ _).alloc (Nat.le_refl _) _
      refine hK _ _ _ (by simp only [Act.put, List.setIfInBounds_toArray, List.set_cons_zero, List.set_cons_succ, Nat.reduceAdd, n2] <;> rfl) ⟨_, _, rfl, ?_⟩ ⟨(hal.cell (p := ⟨w.heap.size, 0, none⟩) r6).trans r0, (hal.cell (p := ⟨w.heap.size, 1, none⟩) r6).trans r1, (hal.cell (p := ⟨w.heap.size, 2, none⟩) r6).trans r2, (hal.cell (p := ⟨w.heap.size, 3, none⟩) r6).trans r3, (hal.cell (p := ⟨w.heap.size, 4, none⟩) r6).trans r4, r5.trans (hal.mono r5.size), Nat.lt_of_lt_of_le r6 hal.size⟩ trivial
      have h0 := Vec.of_new (w := v.alloc (.cells #[.int .u8 1, .int .u8 (k : Int)] 5)) (e := 5) (g := v.heap.size) #[.int .u8 1, .int .u8 (k : Int)] 1 2 2 (by omega) (by decide) rfl (heap_alloc_new v _)
      have e : (([1, Crc.b8 k] : List UInt8).map bv) = #[Value.int .u8 1, .int .u8 (k : Int)].toList.take (2 * 1) := by
        have e2 : bv (Crc.b8 k) = .int .u8 (k : Int) := by unfold bv; rw [b8_toNat, Nat.mod_eq_of_lt (by omega)]
        simp only [List.map_cons, List.map_nil, e2]; rfl
      rw [e]; exact h0
    · intro us v hR hn ho K hK
      obtain ⟨n3, -⟩ := hn
      clear ho
      obtain ⟨r0, r1, r2, r3, r4, r5, r6⟩ := id hR
      obtain ⟨g, c, n3, hv⟩ := n3
      have hcv := conv_vec hv (by omega)
      rw [← HB0.out] at hcv
      rw [if_pos (by rfl)]
      go_simp
      refine hK _ _ _ (by simp only [Act.put, List.setIfInBounds_toArray, List.set_cons_zero, List.set_cons_succ, Nat.reduceAdd, n3] <;> rfl) rfl hR trivial
    · intro us v hR hn ho K hK
      obtain ⟨n4, -⟩ := hn
      have n4 : us 4 = _ := n4
      clear ho
      obtain ⟨r0, r1, r2, r3, r4, r5, r6⟩ := id hR
      have z0 : ¬ (9223372036854775807 < 1 + B0.size) := by omega
      rw [if_pos (by rfl)]
      go_simp
      refine hK _ _ _ (by simp only [Act.put, List.setIfInBounds_toArray, List.set_cons_zero, List.set_cons_succ, Nat.reduceAdd, n4] <;> rfl) ?_ hR trivial
      refine only_mk (v := v) ?_
      rw [HT0.out]
    · intro us v hR hn ho K hK
      clear ho
      obtain ⟨r0, r1, r2, r3, r4, r5, r6⟩ := id hR
      rw [if_pos (by rfl)]
      go_simp
      refine hK _ _ _ (by simp only [Act.put, List.setIfInBounds_toArray, List.set_cons_zero, List.set_cons_succ, Nat.reduceAdd] <;> rfl) ?_ hR ⟨fun h => h, trivial⟩
      refine only_mk (v := v) ?_
      with_reducible rfl
    · intro us v hR hn ho K hK
      obtain ⟨n6, -⟩ := hn
      have n6 : us 6 = _ := n6
      clear ho
      obtain ⟨r0, r1, r2, r3, r4, r5, r6⟩ := id hR
      rw [if_pos (by rfl)]
      go_simp
      refine hK _ _ _ (by simp only [Act.put, List.setIfInBounds_toArray, List.set_cons_zero, List.set_cons_succ, Nat.reduceAdd, n6] <;> rfl) ?_ hR ⟨fun h => h, trivial⟩
      refine only_mk (v := v) ?_
      with_reducible rfl
    · intro us v hR hn ho K hK
      obtain ⟨n7, -⟩ := hn
      have n7 : us 7 = _ := n7
      clear ho
      obtain ⟨r0, r1, r2, r3, r4, r5, r6⟩ := id hR
      rw [if_pos (by rfl)]
      go_simp
      refine hK _ _ _ (by simp only [Act.put, List.setIfInBounds_toArray, List.set_cons_zero, List.set_cons_succ, Nat.reduceAdd, n7] <;> rfl) ?_ hR ⟨fun h => h, trivial⟩
      refine only_mk (v := v) ?_
      with_reducible rfl
    · intro us v hR hn ho K hK
      obtain ⟨n8, -⟩ := hn
      have n8 : us 8 = _ := n8
      clear ho
      obtain ⟨r0, r1, r2, r3, r4, r5, r6⟩ := id hR
      rw [if_pos (by rfl)]
      go_simp
      with_reducible refine (high_is ep 2 (by omega) HE1n.out (ep : Int) 2 rfl rfl E1 HE1.out _).mono ?_
      rintro e v' ⟨rfl, hbh⟩
      dsimp only
      exact hK _ _ _ (by simp only [Act.put, List.setIfInBounds_toArray, List.set_cons_zero, List.set_cons_succ, Nat.reduceAdd, n8] <;> rfl) rfl ⟨(hbh.cell (p := ⟨w.heap.size, 0, none⟩) r6).trans r0, (hbh.cell (p := ⟨w.heap.size, 1, none⟩) r6).trans r1, (hbh.cell (p := ⟨w.heap.size, 2, none⟩) r6).trans r2, (hbh.cell (p := ⟨w.heap.size, 3, none⟩) r6).trans r3, (hbh.cell (p := ⟨w.heap.size, 4, none⟩) r6).trans r4, r5.trans (hbh.mono r5.size), Nat.lt_of_lt_of_le r6 hbh.size⟩ ⟨fun ⟨g, c, h1, h2⟩ => ⟨g, c, h1, h2.after hbh⟩, trivial⟩
    · intro us v hR hn ho K hK
      obtain ⟨n5, n9, -⟩ := hn
      have n5 : us 5 = _ := n5
      have n9 : us 9 = _ := n9
      clear ho
      obtain ⟨r0, r1, r2, r3, r4, r5, r6⟩ := id hR
      have z0 : ¬ (9223372036854775807 < T0.size + E1.size) := by omega
      rw [if_pos (by rfl)]
      go_simp
      refine hK _ _ _ (by simp only [Act.put, List.setIfInBounds_toArray, List.set_cons_zero, List.set_cons_succ, Nat.reduceAdd, n5, n9] <;> rfl) ?_ hR trivial
      refine only_mk (v := v) ?_
      rw [HT1.out]
    · intro us v hR hn ho K hK
      clear ho
      obtain ⟨r0, r1, r2, r3, r4, r5, r6⟩ := id hR
      rw [if_pos (by rfl)]
      go_simp
      refine hK _ _ _ (by simp only [Act.put, List.setIfInBounds_toArray, List.set_cons_zero, List.set_cons_succ, Nat.reduceAdd] <;> rfl) ?_ hR ⟨fun h => h, trivial⟩
      refine only_mk (v := v) ?_
      with_reducible rfl
    · intro us v hR hn ho K hK
      obtain ⟨n11, -⟩ := hn
      have n11 : us 11 = _ := n11
      clear ho
      obtain ⟨r0, r1, r2, r3, r4, r5, r6⟩ := id hR
      rw [if_pos (by rfl)]
      go_simp
      refine hK _ _ _ (by simp only [Act.put, List.setIfInBounds_toArray, List.set_cons_zero, List.set_cons_succ, Nat.reduceAdd, n11] <;> rfl) ?_ hR ⟨fun h => h, trivial⟩
      refine only_mk (v := v) ?_
      with_reducible rfl
    · intro us v hR hn ho K hK
      obtain ⟨n12, -⟩ := hn
      have n12 : us 12 = _ := n12
      clear ho
      obtain ⟨r0, r1, r2, r3, r4, r5, r6⟩ := id hR
      rw [if_pos (by rfl)]
      go_simp
      with_reducible refine (high_is sq 8 (by omega) HE2n.out (sq : Int) 8 rfl rfl E2 HE2.out _).mono ?_
      rintro e v' ⟨rfl, hbh⟩
      dsimp only
      exact hK _ _ _ (by simp only [Act.put, List.setIfInBounds_toArray, List.set_cons_zero, List.set_cons_succ, Nat.reduceAdd, n12] <;> rfl) rfl ⟨(hbh.cell (p := ⟨w.heap.size, 0, none⟩) r6).trans r0, (hbh.cell (p := ⟨w.heap.size, 1, none⟩) r6).trans r1, (hbh.cell (p := ⟨w.heap.size, 2, none⟩) r6).trans r2, (hbh.cell (p := ⟨w.heap.size, 3, none⟩) r6).trans r3, (hbh.cell (p := ⟨w.heap.size, 4, none⟩) r6).trans r4, r5.trans (hbh.mono r5.size), Nat.lt_of_lt_of_le r6 hbh.size⟩ ⟨fun ⟨g, c, h1, h2⟩ => ⟨g, c, h1, h2.after hbh⟩, trivial⟩
    · intro us v hR hn ho K hK
      obtain ⟨n10, n13, -⟩ := hn
      have n10 : us 10 = _ := n10
      have n13 : us 13 = _ := n13
      clear ho
      obtain ⟨r0, r1, r2, r3, r4, r5, r6⟩ := id hR
      have z0 : ¬ (9223372036854775807 < T1.size + E2.size) := by omega
      rw [if_pos (by rfl)]
      go_simp
      refine hK _ _ _ (by simp only [Act.put, List.setIfInBounds_toArray, List.set_cons_zero, List.set_cons_succ, Nat.reduceAdd, n10, n13] <;> rfl) ?_ hR trivial
      refine only_mk (v := v) ?_
      rw [HT2.out]
    · intro us v hR hn ho K hK
      clear ho
      obtain ⟨r0, r1, r2, r3, r4, r5, r6⟩ := id hR
      rw [if_pos (by rfl)]
      go_simp
      refine hK _ _ _ (by simp only [Act.put, List.setIfInBounds_toArray, List.set_cons_zero, List.set_cons_succ, Nat.reduceAdd] <;> rfl) ?_ hR ⟨fun h => h, trivial⟩
      refine only_mk (v := v) ?_
      with_reducible rfl
    · intro us v hR hn ho K hK
      obtain ⟨n15, -⟩ := hn
      have n15 : us 15 = _ := n15
      clear ho
      obtain ⟨r0, r1, r2, r3, r4, r5, r6⟩ := id hR
      rw [if_pos (by rfl)]
      go_simp
      refine hK _ _ _ (by simp only [Act.put, List.setIfInBounds_toArray, List.set_cons_zero, List.set_cons_succ, Nat.reduceAdd, n15] <;> rfl) ?_ hR ⟨fun h => h, trivial⟩
      refine only_mk (v := v) ?_
      with_reducible rfl
    · intro us v hR hn ho K hK
      obtain ⟨n16, -⟩ := hn
      have n16 : us 16 = _ := n16
      clear ho
      obtain ⟨r0, r1, r2, r3, r4, r5, r6⟩ := id hR
      rw [if_pos (by rfl)]
      go_simp
      with_reducible refine (high_is ak 8 (by omega) HE3n.out (ak : Int) 8 rfl rfl E3 HE3.out _).mono ?_
      rintro e v' ⟨rfl, hbh⟩
      dsimp only
      exact hK _ _ _ (by simp only [Act.put, List.setIfInBounds_toArray, List.set_cons_zero, List.set_cons_succ, Nat.reduceAdd, n16] <;> rfl) rfl ⟨(hbh.cell (p := ⟨w.heap.size, 0, none⟩) r6).trans r0, (hbh.cell (p := ⟨w.heap.size, 1, none⟩) r6).trans r1, (hbh.cell (p := ⟨w.heap.size, 2, none⟩) r6).trans r2, (hbh.cell (p := ⟨w.heap.size, 3, none⟩) r6).trans r3, (hbh.cell (p := ⟨w.heap.size, 4, none⟩) r6).trans r4, r5.trans (hbh.mono r5.size), Nat.lt_of_lt_of_le r6 hbh.size⟩ ⟨fun ⟨g, c, h1, h2⟩ => ⟨g, c, h1, h2.after hbh⟩, trivial⟩
    · intro us v hR hn ho K hK
      obtain ⟨n14, n17, -⟩ := hn
      have n14 : us 14 = _ := n14
      have n17 : us 17 = _ := n17
      clear ho
      obtain ⟨r0, r1, r2, r3, r4, r5, r6⟩ := id hR
      have z0 : ¬ (9223372036854775807 < T2.size + E3.size) := by omega
      rw [if_pos (by rfl)]
      go_simp
      refine hK _ _ _ (by simp only [Act.put, List.setIfInBounds_toArray, List.set_cons_zero, List.set_cons_succ, Nat.reduceAdd, n14, n17] <;> rfl) ?_ hR trivial
      refine only_mk (v := v) ?_
      rw [HT3.out]
    · intro us v hR hn ho K hK
      clear ho
      obtain ⟨r0, r1, r2, r3, r4, r5, r6⟩ := id hR
      rw [if_pos (by rfl)]
      go_simp
      refine hK _ _ _ (by simp only [Act.put, List.setIfInBounds_toArray, List.set_cons_zero, List.set_cons_succ, Nat.reduceAdd] <;> rfl) ?_ hR ⟨fun h => h, trivial⟩
      refine only_mk (v := v) ?_
      with_reducible rfl
    · intro us v hR hn ho K hK
      obtain ⟨n19, -⟩ := hn
      have n19 : us 19 = _ := n19
      clear ho
      obtain ⟨r0, r1, r2, r3, r4, r5, r6⟩ := id hR
      rw [if_pos (by rfl)]
      go_simp
      refine hK _ _ _ (by simp only [Act.put, List.setIfInBounds_toArray, List.set_cons_zero, List.set_cons_succ, Nat.reduceAdd, n19] <;> rfl) ?_ hR ⟨fun h => h, trivial⟩
      refine only_mk (v := v) ?_
      with_reducible rfl
    · intro us v hR hn ho K hK
      obtain ⟨n20, -⟩ := hn
      have n20 : us 20 = _ := n20
      clear ho
      obtain ⟨r0, r1, r2, r3, r4, r5, r6⟩ := id hR
      rw [if_pos (by rfl)]
      go_simp
      refine hK _ _ _ (by simp only [Act.put, List.setIfInBounds_toArray, List.set_cons_zero, List.set_cons_succ, Nat.reduceAdd, n20] <;> rfl) ?_ hR ⟨fun h => h, trivial⟩
      refine only_mk (v := v) ?_
      with_reducible rfl
    · intro us v hR hn ho K hK
      obtain ⟨n21, -⟩ := hn
      have n21 : us 21 = _ := n21
      clear ho
      obtain ⟨r0, r1, r2, r3, r4, r5, r6⟩ := id hR
      rw [if_pos (by rfl)]
      go_simp
      refine hK _ _ _ (by simp only [Act.put, List.setIfInBounds_toArray, List.set_cons_zero, List.set_cons_succ, Nat.reduceAdd, n21] <;> rfl) ?_ hR ⟨fun h => h, trivial⟩
      refine only_mk (v := v) ?_
      with_reducible rfl
    · intro us v hR hn ho K hK
      obtain ⟨n22, -⟩ := hn
      have n22 : us 22 = _ := n22
      clear ho
      obtain ⟨r0, r1, r2, r3, r4, r5, r6⟩ := id hR
      rw [if_pos (by rfl)]
      go_simp
      with_reducible refine (high_is b.size 2 (by omega) HE4n.out (b.size : Int) 2 rfl rfl E4 HE4.out _).mono ?_
      rintro e v' ⟨rfl, hbh⟩
      dsimp only
      exact hK _ _ _ (by simp only [Act.put, List.setIfInBounds_toArray, List.set_cons_zero, List.set_cons_succ, Nat.reduceAdd, n22] <;> rfl) rfl ⟨(hbh.cell (p := ⟨w.heap.size, 0, none⟩) r6).trans r0, (hbh.cell (p := ⟨w.heap.size, 1, none⟩) r6).trans r1, (hbh.cell (p := ⟨w.heap.size, 2, none⟩) r6).trans r2, (hbh.cell (p := ⟨w.heap.size, 3, none⟩) r6).trans r3, (hbh.cell (p := ⟨w.heap.size, 4, none⟩) r6).trans r4, r5.trans (hbh.mono r5.size), Nat.lt_of_lt_of_le r6 hbh.size⟩ ⟨fun ⟨g, c, h1, h2⟩ => ⟨g, c, h1, h2.after hbh⟩, trivial⟩
    · intro us v hR hn ho K hK
      obtain ⟨n18, n23, -⟩ := hn
      have n18 : us 18 = _ := n18
      have n23 : us 23 = _ := n23
      clear ho
      obtain ⟨r0, r1, r2, r3, r4, r5, r6⟩ := id hR
      have z0 : ¬ (9223372036854775807 < T3.size + E4.size) := by omega
      rw [if_pos (by rfl)]
      go_simp
      refine hK _ _ _ (by simp only [Act.put, List.setIfInBounds_toArray, List.set_cons_zero, List.set_cons_succ, Nat.reduceAdd, n18, n23] <;> rfl) ?_ hR trivial
      refine only_mk (v := v) ?_
      rw [HT4.out]
    · intro us v hR hn ho K hK
      clear ho
      obtain ⟨r0, r1, r2, r3, r4, r5, r6⟩ := id hR
      rw [if_pos (by rfl)]
      go_simp
      refine hK _ _ _ (by simp only [Act.put, List.setIfInBounds_toArray, List.set_cons_zero, List.set_cons_succ, Nat.reduceAdd] <;> rfl) ?_ hR ⟨fun h => h, trivial⟩
      refine only_mk (v := v) ?_
      with_reducible rfl
    · intro us v hR hn ho K hK
      obtain ⟨n25, -⟩ := hn
      have n25 : us 25 = _ := n25
      clear ho
      obtain ⟨r0, r1, r2, r3, r4, r5, r6⟩ := id hR
      rw [if_pos (by rfl)]
      go_simp
      refine hK _ _ _ (by simp only [Act.put, List.setIfInBounds_toArray, List.set_cons_zero, List.set_cons_succ, Nat.reduceAdd, n25] <;> rfl) ?_ hR ⟨fun h => h, trivial⟩
      refine only_mk (v := v) ?_
      with_reducible rfl
    · intro us v hR hn ho K hK
      obtain ⟨n24, n26, -⟩ := hn
      have n24 : us 24 = _ := n24
      have n26 : us 26 = _ := n26
      clear ho
      obtain ⟨r0, r1, r2, r3, r4, r5, r6⟩ := id hR
      have z0 : ¬ (9223372036854775807 < T4.size + b.size) := by omega
      rw [if_pos (by rfl)]
      go_simp
      refine hK _ _ _ (by simp only [Act.put, List.setIfInBounds_toArray, List.set_cons_zero, List.set_cons_succ, Nat.reduceAdd, n24, n26] <;> rfl) ?_ hR trivial
      refine only_mk (v := v) ?_
      rw [HT5.out]
    · intro us v hR hn ho K hK
      obtain ⟨n27, -⟩ := hn
      have n27 : us 27 = _ := n27
      clear ho
      obtain ⟨r0, r1, r2, r3, r4, r5, r6⟩ := id hR
      rw [if_pos (by rfl)]
      go_simp
      refine hK _ _ _ (by simp only [Act.put, List.setIfInBounds_toArray, List.set_cons_zero, List.set_cons_succ, Nat.reduceAdd, n27] <;> rfl) ?_ hR trivial
      refine only_mk (v := v) ?_
      with_reducible rfl
  case hla =>
    intro us v hR hl
    obtain ⟨n0, n1, n2, n4, n5, n6, n7, n8, n9, n10, n11, n12, n13, n14, n15, n16, n17, n18, n19, n20, n21, n22, n23, n24, n25, n26, n27, n28, -⟩ := need_last hl [0, 1, 2, 4, 5, 6, 7, 8, 9, 10, 11, 12, 13, 14, 15, 16, 17, 18, 19, 20, 21, 22, 23, 24, 25, 26, 27, 28] (by kernel_rfl)
    have n0 : us 0 = _ := n0
    have n1 : us 1 = _ := n1
    have n2 : us 2 = _ := n2
    have n4 : us 4 = _ := n4
    have n5 : us 5 = _ := n5
    have n6 : us 6 = _ := n6
    have n7 : us 7 = _ := n7
    have n8 : us 8 = _ := n8
    have n9 : us 9 = _ := n9
    have n10 : us 10 = _ := n10
    have n11 : us 11 = _ := n11
    have n12 : us 12 = _ := n12
    have n13 : us 13 = _ := n13
    have n14 : us 14 = _ := n14
    have n15 : us 15 = _ := n15
    have n16 : us 16 = _ := n16
    have n17 : us 17 = _ := n17
    have n18 : us 18 = _ := n18
    have n19 : us 19 = _ := n19
    have n20 : us 20 = _ := n20
    have n21 : us 21 = _ := n21
    have n22 : us 22 = _ := n22
    have n23 : us 23 = _ := n23
    have n24 : us 24 = _ := n24
    have n25 : us 25 = _ := n25
    have n26 : us 26 = _ := n26
    have n27 : us 27 = _ := n27
    have n28 : us 28 = _ := n28
    obtain ⟨r0, r1, r2, r3, r4, r5, r6⟩ := id hR
    simp only [n0, n1, n2, n4, n5, n6, n7, n8, n9, n10, n11, n12, n13, n14, n15, n16, n17, n18, n19, n20, n21, n22, n23, n24, n25, n26, n27, n28]
    clear hl n0 n1 n2 n4 n5 n6 n7 n8 n9 n10 n11 n12 n13 n14 n15 n16 n17 n18 n19 n20 n21 n22 n23 n24 n25 n26 n27 n28
    go_wp2_with fail
    with_reducible refine (refSum_is T5 _ (by unfold maxLen; omega)).mono ?_
    rintro e v2 ⟨rfl, rfl⟩
    go_wp2_with fail
    obtain ⟨TL, hTL⟩ : ∃ TL : ByteArray, TL = ⟨(Crc.tail (Crc.sum T5.data.toList)).toArray⟩ := ⟨_, rfl⟩
    have HTL := Lib.hid hTL
    have stl : TL.size ≤ 4 := by rw [hTL]; exact Nat.le_refl _
    clear hTL
    with_reducible refine (refTail_is _ _ rfl TL HTL.out _).mono ?_
    rintro e v3 ⟨rfl, hb3⟩
    go_wp2_with fail
    go_ret
    refine ⟨ret_s ?_, r5.trans (hb3.mono r5.size)⟩
    rw [HTL.out, HH.out]
    unfold put
    rw [← ba_append, ← HH.out]
end Go.Proofs.YtihhflajkohibaaGreatDoor.Frame
/- Layer 6: errors.As and errors.Is of a fault: the number that it wraps, and where it stands. Conditions: the variable of package errors is laid. -/
namespace Go.Proofs.YtihhflajkohibaaGreatDoor.Frame
set_option linter.unusedSimpArgs false
set_option linter.unusedVariables false
set_option maxRecDepth 100000
open Go.RowKit Go.Extern.Stop Go.Stop Go.Extern
open Go.Proofs.YtihhflajkohibaaGreatDoor

/-- what is wrong, and where, in memory -/
def FaultAt (w : World) (g at_ : Nat) (no : Int) : Prop := w.heap[g]? = some (.cells #[.int .i64 (at_ : Int), .iface 39 (.int .i64 no)] 149 (0, 0))
/-- the variable of package errors: the handle of the type error -/
def ErrAt (w : World) : Prop := w.cell? ⟨0, 0, none⟩ = some (.iface 166 (.agg #[.pointer (some ⟨2, 132, none⟩)]))

/-! ### the model's entries for internal/reflectlite, at this program's types -/
theorem valueOfP (t : Addr) (w : World) : (ReflectliteValue.unpack (.iface 136 (.pointer (some t)))).run Tryz.prog w
    = .ok (.agg #[.pointer (some ⟨2, 136, none⟩), .pointer (some ⟨w.heap.size, 0, none⟩), .int .u64 150]) (w.alloc (.cells #[.pointer (some t)] 136)) := by kernel_rfl
theorem typeP (a : Addr) (w : World) : (ReflectliteValue.methodAny (ReflectliteValue.valueError "reflectlite.Value.Type" 0) (fun t _ _ _ => ReflectliteType.toType t) #[.agg #[.pointer (some ⟨2, 136, none⟩), .pointer (some a), .int .u64 150]]).run Tryz.prog w
    = .ok (.iface 166 (.agg #[.pointer (some ⟨2, 136, none⟩)])) w := by kernel_rfl
theorem mKind (h : Value) (w : World) : (Go.method 307 166 (.agg #[h]) "Kind").run Tryz.prog w = .ok (109, h) w := by kernel_rfl
theorem mElem (h : Value) (w : World) : (Go.method 307 166 (.agg #[h]) "Elem").run Tryz.prog w = .ok (123, .agg #[h]) w := by kernel_rfl
theorem mImplements (h : Value) (w : World) : (Go.method 307 166 (.agg #[h]) "Implements").run Tryz.prog w = .ok (124, .agg #[h]) w := by kernel_rfl
theorem mAssignable (h : Value) (w : World) : (Go.method 307 166 (.agg #[h]) "AssignableTo").run Tryz.prog w = .ok (121, .agg #[h]) w := by kernel_rfl
theorem mComparable (h : Value) (w : World) : (Go.method 307 166 (.agg #[h]) "Comparable").run Tryz.prog w = .ok (122, .agg #[h]) w := by kernel_rfl
theorem mUnwrap (v : Value) (w : World) : (Go.method 307 147 v "Unwrap").run Tryz.prog w = .ok (116, v) w := by kernel_rfl
theorem kindP (w : World) : ((ReflectliteType.abiMethod fun t => (fun a : Nat => Value.int IntKind.u8 (a : Int)) <$> Rtype.kind t) #[.pointer (some ⟨2, 136, none⟩)]).run Tryz.prog w = .ok (.int .u8 22) w := by kernel_rfl
theorem kindE (w : World) : ((ReflectliteType.abiMethod fun t => (fun a : Nat => Value.int IntKind.u8 (a : Int)) <$> Rtype.kind t) #[.pointer (some ⟨2, 39, none⟩)]).run Tryz.prog w = .ok (.int .u8 2) w := by kernel_rfl
theorem kindD (w : World) : ((ReflectliteType.abiMethod fun t => (fun a : Nat => Value.int IntKind.u8 (a : Int)) <$> Rtype.kind t) #[.pointer (some ⟨2, 147, none⟩)]).run Tryz.prog w = .ok (.int .u8 22) w := by kernel_rfl
theorem elemP (w : World) : (ReflectliteType.method ReflectliteType.elem #[.agg #[.pointer (some ⟨2, 136, none⟩)]]).run Tryz.prog w = .ok (.iface 166 (.agg #[.pointer (some ⟨2, 39, none⟩)])) w := by kernel_rfl
theorem implementsE (w : World) : (ReflectliteType.relation "Implements" ReflectliteType.implements_ #[.agg #[.pointer (some ⟨2, 39, none⟩)], .iface 166 (.agg #[.pointer (some ⟨2, 132, none⟩)])]).run Tryz.prog w = .ok (.bool true) w := by kernel_rfl
theorem implementsD (w : World) : (ReflectliteType.relation "Implements" ReflectliteType.implements_ #[.agg #[.pointer (some ⟨2, 147, none⟩)], .iface 166 (.agg #[.pointer (some ⟨2, 132, none⟩)])]).run Tryz.prog w = .ok (.bool true) w := by kernel_rfl
theorem typeOfD (v : Value) (w : World) : (ReflectliteType.typeOf #[.iface 147 v]).run Tryz.prog w = .ok (.iface 166 (.agg #[.pointer (some ⟨2, 147, none⟩)])) w := by kernel_rfl
theorem typeOfE (v : Value) (w : World) : (ReflectliteType.typeOf #[.iface 39 v]).run Tryz.prog w = .ok (.iface 166 (.agg #[.pointer (some ⟨2, 39, none⟩)])) w := by kernel_rfl
theorem assignDE (w : World) : (ReflectliteType.relation "AssignableTo" ReflectliteType.assignableTo #[.agg #[.pointer (some ⟨2, 147, none⟩)], .iface 166 (.agg #[.pointer (some ⟨2, 39, none⟩)])]).run Tryz.prog w = .ok (.bool false) w := by kernel_rfl
theorem assignEE (w : World) : (ReflectliteType.relation "AssignableTo" ReflectliteType.assignableTo #[.agg #[.pointer (some ⟨2, 39, none⟩)], .iface 166 (.agg #[.pointer (some ⟨2, 39, none⟩)])]).run Tryz.prog w = .ok (.bool true) w := by kernel_rfl
theorem assignDD (w : World) : (ReflectliteType.relation "AssignableTo" ReflectliteType.assignableTo #[.agg #[.pointer (some ⟨2, 147, none⟩)], .iface 166 (.agg #[.pointer (some ⟨2, 147, none⟩)])]).run Tryz.prog w = .ok (.bool true) w := by kernel_rfl
theorem valueOfD (e : Addr) (w : World) : (ReflectliteValue.unpack (.iface 147 (.pointer (some e)))).run Tryz.prog w
    = .ok (.agg #[.pointer (some ⟨2, 147, none⟩), .pointer (some ⟨w.heap.size, 0, none⟩), .int .u64 150]) (w.alloc (.cells #[.pointer (some e)] 147)) := by kernel_rfl
theorem valueOfE (n : Int) (w : World) : (ReflectliteValue.unpack (.iface 39 (.int .i64 n))).run Tryz.prog w
    = .ok (.agg #[.pointer (some ⟨2, 39, none⟩), .pointer (some ⟨w.heap.size, 0, none⟩), .int .u64 130]) (w.alloc (.cells #[.int .i64 n] 39)) := by kernel_rfl
theorem bind_ok {α β : Type} {P : Program} {m : Sem α} {k : α → Sem β} {a : α} {w w1 : World} (h : m.run P w = .ok a w1) : (m >>= k).run P w = (k a).run P w1 := by
  simp only [Sem.run_bind, h, Result.andThen]
theorem partsP (a : Addr) (w : World) : (ReflectliteValue.parts (.agg #[.pointer (some ⟨2, 136, none⟩), .pointer (some a), .int .u64 150])).run Tryz.prog w = .ok (some (136, a, 150)) w := by kernel_rfl
theorem isNilP (a p : Addr) (W : World) (ha : W.cell? a = some (.pointer (some p))) :
    (ReflectliteValue.method (ReflectliteValue.valueError "reflectlite.Value.IsNil" 0) ReflectliteValue.isNil #[.agg #[.pointer (some ⟨2, 136, none⟩), .pointer (some a), .int .u64 150]]).run Tryz.prog W = .ok (.bool false) W := by
  refine (bind_ok (partsP a W)).trans ?_
  simp [ReflectliteValue.isNil, loadVar, isAgg, underlying, Tryz.underlying136, ha, Result.andThen]
theorem elemOfP (w : World) : (Rtype.elem? 136).run Tryz.prog w = .ok (some 39) w := by kernel_rfl
theorem mkE (p : Addr) (w : World) : (ReflectliteValue.mk 39 p ReflectliteValue.flagAddr).run Tryz.prog w = .ok (.agg #[.pointer (some ⟨2, 39, none⟩), .pointer (some p), .int .u64 386]) w := by kernel_rfl
theorem mkD (p : Addr) (w : World) : (ReflectliteValue.mk 147 p ReflectliteValue.flagAddr).run Tryz.prog w = .ok (.agg #[.pointer (some ⟨2, 147, none⟩), .pointer (some p), .int .u64 406]) w := by kernel_rfl
theorem elemVP (a p : Addr) (W : World) (ha : W.cell? a = some (.pointer (some p))) :
    (ReflectliteValue.method (ReflectliteValue.valueError "reflectlite.Value.Elem" 0) ReflectliteValue.elem #[.agg #[.pointer (some ⟨2, 136, none⟩), .pointer (some a), .int .u64 150]]).run Tryz.prog W
      = .ok (.agg #[.pointer (some ⟨2, 39, none⟩), .pointer (some p), .int .u64 386]) W := by
  refine (bind_ok (partsP a W)).trans ?_
  simp [ReflectliteValue.elem, loadVar, isAgg, underlying, Tryz.underlying136, ha, Result.andThen, elemOfP, mkE]
theorem partsEa (a : Addr) (w : World) : (ReflectliteValue.parts (.agg #[.pointer (some ⟨2, 39, none⟩), .pointer (some a), .int .u64 386])).run Tryz.prog w = .ok (some (39, a, 386)) w := by kernel_rfl
theorem partsE (a : Addr) (w : World) : (ReflectliteValue.parts (.agg #[.pointer (some ⟨2, 39, none⟩), .pointer (some a), .int .u64 130])).run Tryz.prog w = .ok (some (39, a, 130)) w := by kernel_rfl
theorem directE (w : World) : (Rtype.directlyAssignable 39 39).run Tryz.prog w = .ok true w := by kernel_rfl
theorem partsDa (a : Addr) (w : World) : (ReflectliteValue.parts (.agg #[.pointer (some ⟨2, 147, none⟩), .pointer (some a), .int .u64 406])).run Tryz.prog w = .ok (some (147, a, 406)) w := by kernel_rfl
theorem partsD (a : Addr) (w : World) : (ReflectliteValue.parts (.agg #[.pointer (some ⟨2, 147, none⟩), .pointer (some a), .int .u64 150])).run Tryz.prog w = .ok (some (147, a, 150)) w := by kernel_rfl
theorem directD (w : World) : (Rtype.directlyAssignable 147 147).run Tryz.prog w = .ok true w := by kernel_rfl
theorem setE (ta b : Addr) (n : Int) (old : Value) (W : World) (hb : W.cell? b = some (.int .i64 n)) (ht : W.cell? ta = some old) (hf : W.frozen? ta = false) :
    (ReflectliteValue.set #[.agg #[.pointer (some ⟨2, 39, none⟩), .pointer (some ta), .int .u64 386], .agg #[.pointer (some ⟨2, 39, none⟩), .pointer (some b), .int .u64 130]]).run Tryz.prog W
      = .ok (.tuple #[]) (W.setCell ta (.int .i64 n)) := by
  refine (bind_ok (partsEa ta W)).trans ?_
  refine (bind_ok (partsE b W)).trans ?_
  simp [ReflectliteValue.flagAddr, loadVar, isAgg, underlying, Tryz.underlying39, hb, Result.andThen, directE, storeVar, Value.cells, storeCells, Addr.add]
  rw [run_store Tryz.prog W ta _ _ (by rfl)]
  simp [ht, hf]
theorem setD (ta b e : Addr) (old : Value) (W : World) (hb : W.cell? b = some (.pointer (some e))) (ht : W.cell? ta = some old) (hf : W.frozen? ta = false) :
    (ReflectliteValue.set #[.agg #[.pointer (some ⟨2, 147, none⟩), .pointer (some ta), .int .u64 406], .agg #[.pointer (some ⟨2, 147, none⟩), .pointer (some b), .int .u64 150]]).run Tryz.prog W
      = .ok (.tuple #[]) (W.setCell ta (.pointer (some e))) := by
  refine (bind_ok (partsDa ta W)).trans ?_
  refine (bind_ok (partsD b W)).trans ?_
  simp [ReflectliteValue.flagAddr, loadVar, isAgg, underlying, Tryz.underlying147, hb, Result.andThen, directD, storeVar, Value.cells, storeCells, Addr.add]
  rw [run_store Tryz.prog W ta _ _ (by rfl)]
  simp [ht, hf]
/-! ### what the assertions find -/
theorem noAsD (v : Value) (xT : TypeId) (w : World) : (Instr.typeAssert (.iface 147 v) xT 171 true).run Tryz.prog w = .ok (.tuple #[.nilIface, .bool false]) w := run_typeAssert_lacksB Tryz.underlying171 (by kernel_rfl) (by kernel_rfl) v xT w
theorem unwrapD (v : Value) (xT : TypeId) (w : World) : (Instr.typeAssert (.iface 147 v) xT 174 true).run Tryz.prog w = .ok (.tuple #[.iface 147 v, .bool true]) w := run_typeAssert_hasB Tryz.underlying174 (by kernel_rfl) v xT w
theorem noUnwrapE (v : Value) (xT : TypeId) (w : World) : (Instr.typeAssert (.iface 39 v) xT 174 true).run Tryz.prog w = .ok (.tuple #[.nilIface, .bool false]) w := run_typeAssert_lacksB Tryz.underlying174 (by kernel_rfl) (by kernel_rfl) v xT w
theorem noUnwrapsE (v : Value) (xT : TypeId) (w : World) : (Instr.typeAssert (.iface 39 v) xT 176 true).run Tryz.prog w = .ok (.tuple #[.nilIface, .bool false]) w := run_typeAssert_lacksB Tryz.underlying176 (by kernel_rfl) (by kernel_rfl) v xT w
theorem equal_errno (d : Nat) (a b : Int) (w : World) : (Op.equalIn (d + 2) 132 (.iface 39 (.int .i64 a)) (.iface 39 (.int .i64 b))).run Tryz.prog w = .ok (a == b) w := by
  obtain ⟨i, hi, hc⟩ := Option.map_eq_some_iff.1 (show (Tryz.prog.info? 39).map (·.comparable) = some true by kernel_rfl)
  simp [Op.equalIn, run_underlying Tryz.underlying132, run_underlying Tryz.underlying39, typeInfo, hi, hc]
/-- two errors that are numbers: as the numbers are -/
theorem eq_errno (a b : Int) (w : World) : (binOp .eql 132 (.iface 39 (.int .i64 a)) (.iface 39 (.int .i64 b))).run Tryz.prog w = .ok (.bool (a == b)) w := by
  simp only [binOp]
  simp [Op.equal, Op.maxDepth, equal_errno 9998]
end Go.Proofs.YtihhflajkohibaaGreatDoor.Frame
/- Layer 6: get hands back the frame that bytes are, or what is wrong and where. Conditions: the table of layer 5 lies. -/
namespace Go.Proofs.YtihhflajkohibaaGreatDoor.Frame
set_option linter.unusedSimpArgs false
set_option linter.unusedVariables false
set_option maxRecDepth 100000
open Go.RowKit
open Go.Proofs.YtihhflajkohibaaGreatDoor
open Go.Proofs.YtihhflajkohibaaGreatDoor.Link (Fr right_is right_any frBox bcell ret_bool empty_size)

/-- get's answer where something is wrong -/
def Bad (w : World) (at_ : Nat) (no : Int) (e : Ending) (w' : World) : Prop :=
  ∃ g, e = .returned (.tuple #[Link.Fr.val noFr, .iface 147 (.pointer (some ⟨g, 0, none⟩))]) ∧ FaultAt w' g at_ no ∧ w.heap.size ≤ g ∧ Below w.heap.size w w'
theorem byte_at (s : ByteArray) (i : Nat) (h : i < s.size) : s.data.toList.getD i 0 = s[i] := by
  rw [List.getD_eq_getElem?_getD, List.getElem?_eq_getElem (by simpa using h)]; rfl
theorem byte_ne {x c : UInt8} {n : Int} (hc : (c.toNat : Int) = n) (h : x ≠ c) : ((x.toNat : Int) != n) = true := by
  subst hc
  refine bne_iff_ne.2 fun e => h (UInt8.toNat_inj.1 (by omega))
theorem byte_eq' {x c : UInt8} {n : Int} (hc : (c.toNat : Int) = n) (h : x = c) : ((x.toNat : Int) != n) = false := by
  subst h; rw [hc]; simp
theorem read_is (s : ByteArray) (a n : Nat) (w : World) (hs : s.size ≤ maxLen) (h : a + n ≤ s.size) (hn : n ≤ 8) (a' n' N : Int) (ha' : a' = (a : Int)) (hn' : n' = (n : Int)) (hN : N = numI (sub s.data.toList a n)) :
    Calls Tryz.prog 86 #[.string s, .int .i64 a', .int .i64 n'] w fun e w' => e = .returned (.int .u64 N) ∧ Below w.heap.size w w' := by
  subst ha' hn' hN; exact read_any s a n w hs h hn
theorem fault_new (w : World) (o : Obj) (at_ : Nat) (no : Int) : FaultAt ((w.alloc o).alloc (.cells #[.int .i64 (at_ : Int), .iface 39 (.int .i64 no)] 149)) (w.heap.size + 1) at_ no := by
  unfold FaultAt
  have h := heap_alloc_new (w.alloc o) (.cells #[.int .i64 (at_ : Int), .iface 39 (.int .i64 no)] 149)
  simpa using h
def zeros : Array Value := #[.int .i64 0, .int .i64 0, .int .u64 0, .int .u64 0, .string ⟨#[]⟩]

set_option maxRecDepth 100000 in
set_option maxHeartbeats 1000000 in
theorem get_short (s : ByteArray) (w : World) (hs : s.size < 27) : Calls Tryz.prog 74 #[.string s] w (Bad w s.size 61) := by
  have hd : decide ((s.size : Int) - 23 - 4 < 0) = true := by simp; omega
  go_enter Tryz.func74, Tryz.ntmps74
  go_wp2_with fail
  exact bodyPost_ret (v := .tuple #[.agg #[.int .i64 0, .int .i64 0, .int .u64 0, .int .u64 0, .string ⟨#[]⟩], .iface 147 (.pointer (some ⟨w.heap.size + 1, 0, none⟩))]) (by simp [results, Tryz.results74, go_sem]) rfl
    ⟨_, rfl, fault_new _ _ _ _, by omega, ((Below.refl _ _).alloc (Nat.le_refl _) _).alloc (by simp) _⟩
/-- how get ends: the frame lies in the result's own block -/
theorem get_end (t : Array Value) (F : World) (X : Nat) {k ep sq ak b E : Value} {post : Ending → World → Prop} (h2 : t[2]? = some (.pointer (some ⟨X, 0, none⟩))) (h3 : t[3]? = some E) (hX : F.heap[X]? = some (.cells #[k, ep, sq, ak, b] 83 (0, 0)))
    (hp : post (.returned (.tuple #[.agg #[k, ep, sq, ak, b], E])) F) : bodyPost Tryz.prog Tryz.f74 post .ret { tmps := t, defers := [] } F := by
  have x0 := cell_of_block hX 0
  have x1 := cell_of_block hX 1
  have x2 := cell_of_block hX 2
  have x3 := cell_of_block hX 3
  have x4 := cell_of_block hX 4
  simp at x0 x1 x2 x3 x4
  exact bodyPost_ret (v := .tuple #[.agg #[k, ep, sq, ak, b], E]) (by simp [results, Tryz.results74, go_sem, h2, h3, x0, x1, x2, x3, x4]) rfl hp
section
variable {v w : World} {X : Nat} {cs : Array Value} {t : TypeId}
/-- five cells stored, and a block more -/
theorem stored5 {k0 k1 k2 k3 k4 : Value} (hX : v.heap[X]? = some (.cells #[k0, k1, k2, k3, k4] t (0, 0))) (a b c d e : Value) (o : Obj) :
    ((((((v.setCell ⟨X, 0, none⟩ a).setCell ⟨X, 1, none⟩ b).setCell ⟨X, 2, none⟩ c).setCell ⟨X, 3, none⟩ d).setCell ⟨X, 4, none⟩ e).alloc o).heap[X]? = some (.cells #[a, b, c, d, e] t (0, 0)) := by
  have hlt := lt_of_block hX
  rw [Below.heap_alloc _ _ _ (by simpa [World.setCell] using hlt)]
  exact set_block (set_block (set_block (set_block (set_block hX 0 a) 1 b) 2 c) 3 d) 4 e
theorem stored5' {k0 k1 k2 k3 k4 : Value} (hX : v.heap[X]? = some (.cells #[k0, k1, k2, k3, k4] t (0, 0))) (a b c d e : Value) :
    (((((v.setCell ⟨X, 0, none⟩ a).setCell ⟨X, 1, none⟩ b).setCell ⟨X, 2, none⟩ c).setCell ⟨X, 3, none⟩ d).setCell ⟨X, 4, none⟩ e).heap[X]? = some (.cells #[a, b, c, d, e] t (0, 0)) :=
  set_block (set_block (set_block (set_block (set_block hX 0 a) 1 b) 2 c) 3 d) 4 e
theorem stored_below' {B : Nat} (hB : B ≤ X) (a b c d e : Value) :
    Below B v (((((v.setCell ⟨X, 0, none⟩ a).setCell ⟨X, 1, none⟩ b).setCell ⟨X, 2, none⟩ c).setCell ⟨X, 3, none⟩ d).setCell ⟨X, 4, none⟩ e) :=
  (((((Below.refl B v).setCell (p := ⟨X, 0, none⟩) hB a).setCell (p := ⟨X, 1, none⟩) hB b).setCell (p := ⟨X, 2, none⟩) hB c).setCell (p := ⟨X, 3, none⟩) hB d).setCell (p := ⟨X, 4, none⟩) hB e
theorem stored_below {B : Nat} (hB : B ≤ X) (hs : B ≤ v.heap.size) (a b c d e : Value) (o : Obj) :
    Below B v ((((((v.setCell ⟨X, 0, none⟩ a).setCell ⟨X, 1, none⟩ b).setCell ⟨X, 2, none⟩ c).setCell ⟨X, 3, none⟩ d).setCell ⟨X, 4, none⟩ e).alloc o) :=
  (stored_below' hB a b c d e).alloc (by simpa [World.setCell] using hs) o
theorem fault_stored (v : World) (X : Nat) (a b c d e : Value) (at_ : Nat) (no : Int) :
    FaultAt ((((((v.setCell ⟨X, 0, none⟩ a).setCell ⟨X, 1, none⟩ b).setCell ⟨X, 2, none⟩ c).setCell ⟨X, 3, none⟩ d).setCell ⟨X, 4, none⟩ e).alloc (.cells #[.int .i64 (at_ : Int), .iface 39 (.int .i64 no)] 149)) v.heap.size at_ no := by
  unfold FaultAt
  have h := heap_alloc_new (((((v.setCell ⟨X, 0, none⟩ a).setCell ⟨X, 1, none⟩ b).setCell ⟨X, 2, none⟩ c).setCell ⟨X, 3, none⟩ d).setCell ⟨X, 4, none⟩ e) (.cells #[.int .i64 (at_ : Int), .iface 39 (.int .i64 no)] 149)
  have e : (((((v.setCell ⟨X, 0, none⟩ a).setCell ⟨X, 1, none⟩ b).setCell ⟨X, 2, none⟩ c).setCell ⟨X, 3, none⟩ d).setCell ⟨X, 4, none⟩ e).heap.size = v.heap.size := by simp [World.setCell]
  rw [e] at h
  exact h
end
section
variable {s : ByteArray} {w : World} {m a : Nat}
set_option maxRecDepth 100000 in
set_option maxHeartbeats 1000000 in
theorem get_magic (hm : s.size = m + 27) (ha : a = m + 4) (hs : s.size ≤ maxLen) (h0 : s.data.toList.getD 0 0 ≠ 78) : Calls Tryz.prog 74 #[.string s] w (Bad w 0 62) := by
  unfold maxLen at hs
  have he1 : (s.size : Int) - 23 = (a : Int) := by omega
  have he2 : (a : Int) - 4 = (m : Int) := by omega
  have b1 : 27 ≤ s.size := by omega
  have p0 : 0 < s.size := by omega
  have p1 : 1 < s.size := by omega
  have dm : decide ((m : Int) < 0) = false := by simp
  rw [byte_at s 0 p0] at h0
  have d0 := byte_ne (n := 78) rfl h0
  clear hm ha h0
  go_enter Tryz.func74, Tryz.ntmps74
  go_wp2_with fail
  exact bodyPost_ret (v := .tuple #[.agg #[.int .i64 0, .int .i64 0, .int .u64 0, .int .u64 0, .string ⟨#[]⟩], .iface 147 (.pointer (some ⟨w.heap.size + 1, 0, none⟩))]) (by simp [results, Tryz.results74, go_sem]) rfl
    ⟨_, rfl, fault_new _ _ _ _, by omega, ((Below.refl _ _).alloc (Nat.le_refl _) _).alloc (by simp) _⟩
set_option maxRecDepth 100000 in
set_option maxHeartbeats 1000000 in
theorem get_version (hm : s.size = m + 27) (ha : a = m + 4) (hs : s.size ≤ maxLen) (h0 : s.data.toList.getD 0 0 = 78) (h1 : s.data.toList.getD 1 0 ≠ 1) : Calls Tryz.prog 74 #[.string s] w (Bad w 1 63) := by
  unfold maxLen at hs
  have he1 : (s.size : Int) - 23 = (a : Int) := by omega
  have he2 : (a : Int) - 4 = (m : Int) := by omega
  have b1 : 27 ≤ s.size := by omega
  have p0 : 0 < s.size := by omega
  have p1 : 1 < s.size := by omega
  have dm : decide ((m : Int) < 0) = false := by simp
  rw [byte_at s 0 p0] at h0
  rw [byte_at s 1 p1] at h1
  have d0 := byte_eq' (n := 78) rfl h0
  have d1 := byte_ne (n := 1) rfl h1
  clear hm ha h0 h1
  go_enter Tryz.func74, Tryz.ntmps74
  go_wp2_with fail
  exact bodyPost_ret (v := .tuple #[.agg #[.int .i64 0, .int .i64 0, .int .u64 0, .int .u64 0, .string ⟨#[]⟩], .iface 147 (.pointer (some ⟨w.heap.size + 1, 0, none⟩))]) (by simp [results, Tryz.results74, go_sem]) rfl
    ⟨_, rfl, fault_new _ _ _ _, by omega, ((Below.refl _ _).alloc (Nat.le_refl _) _).alloc (by simp) _⟩
/-- the bytes' number and the length that it should be -/
theorem len_ne {x m : Nat} (h : x ≠ m) : (((x : Nat) : Int) != (m : Int)) = true := bne_iff_ne.2 (by omega)
set_option maxRecDepth 100000 in
set_option maxHeartbeats 1000000 in
theorem get_length (hm : s.size = m + 27) (ha : a = m + 4) (hs : s.size ≤ maxLen) (h0 : s.data.toList.getD 0 0 = 78) (h1 : s.data.toList.getD 1 0 = 1) (h2 : num (sub s.data.toList 21 2) ≠ m) : Calls Tryz.prog 74 #[.string s] w (Bad w 21 64) := by
  have hs' := hs
  unfold maxLen at hs
  have he1 : (s.size : Int) - 23 = (a : Int) := by omega
  have he2 : (a : Int) - 4 = (m : Int) := by omega
  have b1 : 27 ≤ s.size := by omega
  have p0 : 0 < s.size := by omega
  have p1 : 1 < s.size := by omega
  have dm : decide ((m : Int) < 0) = false := by simp
  have hwm : IntKind.u64.wrap (m : Int) = (m : Int) := by rw [IntKind.wrap_u64]; omega
  rw [byte_at s 0 p0] at h0
  rw [byte_at s 1 p1] at h1
  have d0 := byte_eq' (n := 78) rfl h0
  have d1 := byte_eq' (n := 1) rfl h1
  obtain ⟨N, hN⟩ : ∃ N, N = numI (sub s.data.toList 21 2) := ⟨_, rfl⟩
  have d2 : (N != (m : Int)) = true := by rw [hN]; exact len_ne h2
  have HN := Lib.hid hN
  have hal : Below w.heap.size w (w.alloc (.cells zeros 83)) := (Below.refl _ _).alloc (Nat.le_refl _) _
  have HAL := Lib.hid hal
  clear hm ha h0 h1 hN h2 hal
  go_enter Tryz.func74, Tryz.ntmps74
  go_wp2_with fail
  with_reducible refine (read_is s 21 2 _ hs' (by omega) (by omega) 21 2 N rfl rfl HN.out).mono ?_
  rintro e v ⟨rfl, hb⟩
  have hX : v.heap[w.heap.size]? = some (.cells zeros 83 (0, 0)) := (hb.block w.heap.size (by simp)).trans (heap_alloc_new w _)
  have x0 := cell_of_block hX 0
  have x1 := cell_of_block hX 1
  have x2 := cell_of_block hX 2
  have x3 := cell_of_block hX 3
  have x4 := cell_of_block hX 4
  simp [zeros] at x0 x1 x2 x3 x4
  have y0 := frozen_of_block hX 0
  have y1 := frozen_of_block hX 1
  have y2 := frozen_of_block hX 2
  have y3 := frozen_of_block hX 3
  have y4 := frozen_of_block hX 4
  have hlt := lt_of_block hX
  have hsz : w.heap.size ≤ v.heap.size := Nat.le_of_lt hlt
  go_wp2_with fail
  refine get_end _ _ w.heap.size rfl rfl (stored5 hX _ _ _ _ _ _) ⟨v.heap.size, rfl, ?_, hsz, (HAL.out.trans (hb.mono (by simp))).trans (stored_below (Nat.le_refl _) hsz _ _ _ _ _ _)⟩
  exact fault_stored _ _ _ _ _ _ _ _ _
end
end Go.Proofs.YtihhflajkohibaaGreatDoor.Frame
/- Layer 6: get, behind the length: the sum, the kind, and the frame. Conditions: the table of layer 5 lies. -/
namespace Go.Proofs.YtihhflajkohibaaGreatDoor.Frame
set_option linter.unusedSimpArgs false
set_option linter.unusedVariables false
set_option maxRecDepth 100000
open Go.RowKit
open Go.Proofs.YtihhflajkohibaaGreatDoor
open Go.Proofs.YtihhflajkohibaaGreatDoor.Link (Fr right_is right_any frBox bcell ret_bool empty_size)
theorem len_eq {x m : Nat} (h : x = m) : (((x : Nat) : Int) != (m : Int)) = false := by subst h; simp
theorem good_no (s : ByteArray) (w : World) (hs : s.size ≤ maxLen) (ht : TabAt w) (hg : Crc.isGood s.data.toList = false) : Calls Tryz.prog 87 #[.string s] w fun e w' => e = .returned (.tuple #[.string ⟨#[]⟩, .bool false]) ∧ Below w.heap.size w w' := by
  have h := good_any s w hs ht
  rw [Crc.good_not _ hg, hg] at h; exact h
theorem good_yes (s G : ByteArray) (w : World) (hs : s.size ≤ maxLen) (ht : TabAt w) (hg : Crc.isGood s.data.toList = true) (hG : G = ⟨(Crc.good s.data.toList).toArray⟩) : Calls Tryz.prog 87 #[.string s] w fun e w' => e = .returned (.tuple #[.string G, .bool true]) ∧ Below w.heap.size w w' := by
  have h := good_any s w hs ht
  rw [hg] at h; subst hG; exact h
theorem stored_far {v : World} {X g : Nat} (h : X ≠ g) (a b c d e : Value) : (((((v.setCell ⟨g, 0, none⟩ a).setCell ⟨g, 1, none⟩ b).setCell ⟨g, 2, none⟩ c).setCell ⟨g, 3, none⟩ d).setCell ⟨g, 4, none⟩ e).heap[X]? = v.heap[X]? := by
  rw [set_other (p := ⟨g, 4, none⟩) h, set_other (p := ⟨g, 3, none⟩) h, set_other (p := ⟨g, 2, none⟩) h, set_other (p := ⟨g, 1, none⟩) h, set_other (p := ⟨g, 0, none⟩) h]
section
variable {s : ByteArray} {w : World} {m a : Nat}
set_option maxRecDepth 100000 in
set_option maxHeartbeats 1000000 in
theorem get_sum (hm : s.size = m + 27) (ha : a = m + 4) (hs : s.size ≤ maxLen) (ht : TabAt w) (h0 : s.data.toList.getD 0 0 = 78) (h1 : s.data.toList.getD 1 0 = 1) (h2 : num (sub s.data.toList 21 2) = m) (h3 : Crc.isGood s.data.toList = false) : Calls Tryz.prog 74 #[.string s] w (Bad w (s.size - 4) 65) := by
  have hs' := hs
  unfold maxLen at hs
  have he1 : (s.size : Int) - 23 = (a : Int) := by omega
  have he2 : (a : Int) - 4 = (m : Int) := by omega
  have b1 : 27 ≤ s.size := by omega
  have p0 : 0 < s.size := by omega
  have p1 : 1 < s.size := by omega
  have p2 : 2 < s.size := by omega
  have p2' : (2 : Int) < (s.size : Int) := by omega
  have dm : decide ((m : Int) < 0) = false := by simp
  have hwm : IntKind.u64.wrap (m : Int) = (m : Int) := by rw [IntKind.wrap_u64]; omega
  rw [byte_at s 0 p0] at h0
  rw [byte_at s 1 p1] at h1
  have d0 := byte_eq' (n := 78) rfl h0
  have d1 := byte_eq' (n := 1) rfl h1
  obtain ⟨N, hN⟩ : ∃ N, N = numI (sub s.data.toList 21 2) := ⟨_, rfl⟩
  have d2 : (N != (m : Int)) = false := by rw [hN]; exact len_eq h2
  have HN := Lib.hid hN
  have hal : Below w.heap.size w (w.alloc (.cells zeros 83)) := (Below.refl _ _).alloc (Nat.le_refl _) _
  have HAL := Lib.hid hal
  obtain ⟨c, hc⟩ : ∃ c : Nat, c = s.size - 4 := ⟨_, rfl⟩
  have he3 : 23 + (m : Int) = (c : Int) := by omega
  rw [← hc]
  clear hm ha h0 h1 hN h2 hal hc
  go_enter Tryz.func74, Tryz.ntmps74
  go_wp2_with fail
  with_reducible refine (read_is s 21 2 _ hs' (by omega) (by omega) 21 2 N rfl rfl HN.out).mono ?_
  rintro e v ⟨rfl, hb⟩
  have hbw : Below w.heap.size w v := HAL.out.trans (hb.mono (by simp))
  have hX0 : v.heap[w.heap.size]? = some (.cells zeros 83 (0, 0)) := (hb.block w.heap.size (by simp)).trans (heap_alloc_new w _)
  have htv : TabAt v := ht.below hbw ht.pos
  go_wp2_with fail
  with_reducible refine (good_no s _ hs' htv h3).mono ?_
  rintro e v2 ⟨rfl, hb2⟩
  have hX : v2.heap[w.heap.size]? = some (.cells zeros 83 (0, 0)) := (hb2.block _ (lt_of_block hX0)).trans hX0
  have x0 := cell_of_block hX 0
  have x1 := cell_of_block hX 1
  have x2 := cell_of_block hX 2
  have x3 := cell_of_block hX 3
  have x4 := cell_of_block hX 4
  simp [zeros] at x0 x1 x2 x3 x4
  have y0 := frozen_of_block hX 0
  have y1 := frozen_of_block hX 1
  have y2 := frozen_of_block hX 2
  have y3 := frozen_of_block hX 3
  have y4 := frozen_of_block hX 4
  have hlt := lt_of_block hX
  have hsz : w.heap.size ≤ v2.heap.size := Nat.le_of_lt hlt
  go_wp2_with fail
  refine get_end _ _ w.heap.size rfl rfl (stored5 hX _ _ _ _ _ _) ⟨v2.heap.size, rfl, ?_, hsz, (hbw.trans (hb2.mono hbw.size)).trans (stored_below (Nat.le_refl _) hsz _ _ _ _ _ _)⟩
  exact fault_stored _ _ _ _ _ _ _ _ _
set_option maxRecDepth 100000 in
set_option maxHeartbeats 4000000 in
theorem get_parts (hm : s.size = m + 27) (ha : a = m + 4) (hs : s.size ≤ maxLen) (ht : TabAt w) (h0 : s.data.toList.getD 0 0 = 78) (h1 : s.data.toList.getD 1 0 = 1) (h2 : num (sub s.data.toList 21 2) = m) (h3 : Crc.isGood s.data.toList = true) :
    Calls Tryz.prog 74 #[.string s] w fun e w' => ((parts s.data.toList).right = true → e = .returned (.tuple #[Link.Fr.val (parts s.data.toList), .nilIface]) ∧ Below w.heap.size w w') ∧ ((parts s.data.toList).right = false → Bad w 2 66 e w') := by
  have hs' := hs
  unfold maxLen at hs
  have he1 : (s.size : Int) - 23 = (a : Int) := by omega
  have he2 : (a : Int) - 4 = (m : Int) := by omega
  have b1 : 27 ≤ s.size := by omega
  have p0 : 0 < s.size := by omega
  have p1 : 1 < s.size := by omega
  have p2 : 2 < s.size := by omega
  have p2' : (2 : Int) < (s.size : Int) := by omega
  have dm : decide ((m : Int) < 0) = false := by simp
  have hwm : IntKind.u64.wrap (m : Int) = (m : Int) := by rw [IntKind.wrap_u64]; omega
  rw [byte_at s 0 p0] at h0
  rw [byte_at s 1 p1] at h1
  have d0 := byte_eq' (n := 78) rfl h0
  have d1 := byte_eq' (n := 1) rfl h1
  obtain ⟨N, hN⟩ : ∃ N, N = numI (sub s.data.toList 21 2) := ⟨_, rfl⟩
  have d2 : (N != (m : Int)) = false := by rw [hN]; exact len_eq h2
  have HN := Lib.hid hN
  have hal : Below w.heap.size w (w.alloc (.cells zeros 83)) := (Below.refl _ _).alloc (Nat.le_refl _) _
  have HAL := Lib.hid hal
  obtain ⟨G, hG⟩ : ∃ G : ByteArray, G = ⟨(Crc.good s.data.toList).toArray⟩ := ⟨_, rfl⟩
  obtain ⟨E3, hE3⟩ : ∃ E, E = numI (sub s.data.toList 3 2) := ⟨_, rfl⟩
  obtain ⟨E5, hE5⟩ : ∃ E, E = numI (sub s.data.toList 5 8) := ⟨_, rfl⟩
  obtain ⟨E13, hE13⟩ : ∃ E, E = numI (sub s.data.toList 13 8) := ⟨_, rfl⟩
  have hlen : s.data.toList.length = s.size := by simp
  have hg : Crc.good s.data.toList = s.data.toList.take (s.data.toList.length - 4) := by unfold Crc.good; rw [if_pos h3]
  have hGs : G.size = m + 23 := by
    rw [hG, ba_size, hg, List.length_take, hlen]; omega
  obtain ⟨B, hB⟩ : ∃ B : ByteArray, B = G.extract 23 G.size := ⟨_, rfl⟩
  have hsl : ∀ w, (Instr.slice 9 (.string G) (some (.int .i64 23)) Option.none Option.none).run Tryz.prog w = .ok (.string B) w := fun w => by
    rw [run_slice_string_from_if w 9 G .i64 23 Tryz.underlying9, if_pos ⟨by omega, by omega⟩, hB]; rfl
  have hBl : B = ⟨(sub s.data.toList 23 (s.data.toList.length - 27)).toArray⟩ := by
    rw [hB, hG]
    apply ByteArray.ext
    have e : ∀ l : List UInt8, (⟨l.toArray⟩ : ByteArray).extract 23 (⟨l.toArray⟩ : ByteArray).size = ⟨((l.drop 23).take (l.length - 23)).toArray⟩ := fun l => ByteArray.extract_mk l 23 _
    rw [e, hg]
    simp only
    congr 1
    unfold sub
    rw [List.length_take, List.drop_take, List.take_take, hlen]
    congr 1
    omega
  have hw3 : IntKind.i64.wrap E3 = E3 := by
    have h1 := num_lt (sub s.data.toList 3 2)
    rw [sub_length _ _ _ (by omega)] at h1
    refine IntWalk.i64_in _ ?_
    rw [hE3]; unfold numI
    omega
  have hw2 : IntKind.i64.wrap (s[2].toNat : Int) = (s[2].toNat : Int) := IntWalk.i64_in _ (by have := s[2].toNat_lt; omega)
  have hpar : (⟨(s[2].toNat : Int), E3, E5, E13, B⟩ : Fr) = parts s.data.toList := by
    unfold parts
    rw [hBl, hE3, hE5, hE13, byte_at s 2 p2]; rfl
  have HG := Lib.hid hG
  have HE3 := Lib.hid hE3
  have HE5 := Lib.hid hE5
  have HE13 := Lib.hid hE13
  have HP := Lib.hid hpar
  clear hm ha h0 h1 hN h2 hal hE3 hE5 hE13 hG hg hGs hB hBl hlen hpar
  go_enter Tryz.func74, Tryz.ntmps74
  go_wp2_with fail
  with_reducible refine (read_is s 21 2 _ hs' (by omega) (by omega) 21 2 N rfl rfl HN.out).mono ?_
  rintro e v ⟨rfl, hb⟩
  have hbw : Below w.heap.size w v := HAL.out.trans (hb.mono (by simp))
  have hX0 : v.heap[w.heap.size]? = some (.cells zeros 83 (0, 0)) := (hb.block w.heap.size (by simp)).trans (heap_alloc_new w _)
  have htv : TabAt v := ht.below hbw ht.pos
  go_wp2_with fail
  with_reducible refine (good_yes s G _ hs' htv h3 HG.out).mono ?_
  rintro e v2 ⟨rfl, hb2⟩
  have hX2 : v2.heap[w.heap.size]? = some (.cells zeros 83 (0, 0)) := (hb2.block _ (lt_of_block hX0)).trans hX0
  have hbw2 : Below w.heap.size w v2 := hbw.trans (hb2.mono hbw.size)
  have HR0 := Lib.hid (show Below w.heap.size w v2.drew ∧ v2.drew.heap[w.heap.size]? = some (.cells zeros 83 (0, 0)) from ⟨below_drewN hbw2 1, hX2⟩)
  clear hX0 hX2 hbw hbw2 hb hb2 htv
  go_wp2_with fail
  refine' wp_flow [only 0 _, only 1 _, only 2 _, only 3 _, only 4 (.int .u64 E3), only 5 _, only 6 _, only 7 (.int .u64 E5), only 8 _, only 9 (.int .u64 E13), only 10 _, only 11 _, only 12 _, own 13 (fun x v => ∃ g, x = .pointer (some ⟨g, 0, none⟩) ∧ w.heap.size < g ∧ v.heap[g]? = some (.cells zeros 83 (0, 0))), (fun us v => ∃ g, us 13 = .pointer (some ⟨g, 0, none⟩) ∧ w.heap.size < g ∧ v.heap[g]? = some (.cells #[.int .i64 (s[2].toNat : Int), .int .i64 E3, .int .u64 E5, .int .u64 E13, .string B] 83 (0, 0)))] (fun v => Below w.heap.size w v ∧ v.heap[w.heap.size]? = some (.cells zeros 83 (0, 0))) [[], [0], [1], [], [3], [4], [], [6], [], [8], [], [10], [2, 5, 7, 9, 11], [], [12, 13]] [[], [], [], [], [], [], [], [], [], [], [], [], [], [], [13]] [[], [], [], [], [], [], [], [], [], [], [], [], [], [], []] [[13], [13], [13], [13], [13], [13], [13], [13], [13], [13], [13], [13], [13], [], []] [13, 14] [0, 1, 3, 0, 8, 24, 0, 64, 0, 256, 0, 1024, 4095, 0, 16383] _ (fun us => ?hfr) (by kernel_rfl) (by kernel_rfl) (by kernel_rfl) ⟨only_still _, only_still _, only_still _, only_still _, only_still _, only_still _, only_still _, only_still _, only_still _, only_still _, only_still _, only_still _, only_still _, trivial, trivial, trivial⟩ (HR0.out) (by simp) (trivial) ?hst ?hla
  case hfr => (simp only [List.cons_append, List.nil_append, putAll, Act.put, List.setIfInBounds_toArray, List.set_cons_zero, List.set_cons_succ, Nat.reduceAdd]; rfl)
  case hst =>
    refine ⟨?_, ?_, ?_, ?_, ?_, ?_, ?_, ?_, ?_, ?_, ?_, ?_, ?_, ?_, ?_, trivial⟩
    · intro us v hR hn ho K hK
      clear ho
      obtain ⟨r1, r2⟩ := id hR
      rw [if_pos (by rfl)]
      go_simp
      refine hK _ _ _ (by simp only [Act.put, List.setIfInBounds_toArray, List.set_cons_zero, List.set_cons_succ, Nat.reduceAdd] <;> rfl) ?_ hR ⟨fun h => h, trivial⟩
      refine only_mk (v := v) ?_
      with_reducible rfl
    · intro us v hR hn ho K hK
      obtain ⟨n0, -⟩ := hn
      have n0 : us 0 = _ := n0
      clear ho
      obtain ⟨r1, r2⟩ := id hR
      rw [if_pos (by rfl)]
      go_simp
      refine hK _ _ _ (by simp only [Act.put, List.setIfInBounds_toArray, List.set_cons_zero, List.set_cons_succ, Nat.reduceAdd, n0] <;> rfl) ?_ hR ⟨fun h => h, trivial⟩
      refine only_mk (v := v) ?_
      with_reducible rfl
    · intro us v hR hn ho K hK
      obtain ⟨n1, -⟩ := hn
      have n1 : us 1 = _ := n1
      clear ho
      obtain ⟨r1, r2⟩ := id hR
      rw [if_pos (by rfl)]
      go_simp
      refine hK _ _ _ (by simp only [Act.put, List.setIfInBounds_toArray, List.set_cons_zero, List.set_cons_succ, Nat.reduceAdd, n1] <;> rfl) ?_ hR ⟨fun h => h, trivial⟩
      refine only_mk (v := v) ?_
      with_reducible rfl
    · intro us v hR hn ho K hK
      clear ho
      obtain ⟨r1, r2⟩ := id hR
      rw [if_pos (by rfl)]
      go_simp
      refine hK _ _ _ (by simp only [Act.put, List.setIfInBounds_toArray, List.set_cons_zero, List.set_cons_succ, Nat.reduceAdd] <;> rfl) ?_ hR ⟨fun h => h, trivial⟩
      refine only_mk (v := v) ?_
      with_reducible rfl
    · intro us v hR hn ho K hK
      obtain ⟨n3, -⟩ := hn
      have n3 : us 3 = _ := n3
      clear ho
      obtain ⟨r1, r2⟩ := id hR
      rw [if_pos (by rfl)]
      go_simp
      with_reducible refine (read_is s 3 2 _ hs' (by omega) (by omega) 3 2 E3 rfl rfl HE3.out).mono ?_
      rintro e v' ⟨rfl, hbr⟩
      dsimp only
      exact hK _ _ _ (by simp only [Act.put, List.setIfInBounds_toArray, List.set_cons_zero, List.set_cons_succ, Nat.reduceAdd, n3] <;> rfl) rfl ⟨r1.trans (hbr.mono r1.size), (hbr.block _ (lt_of_block r2)).trans r2⟩ ⟨fun ⟨g, h1, h2, h3⟩ => ⟨g, h1, h2, (hbr.block _ (lt_of_block h3)).trans h3⟩, trivial⟩
    · intro us v hR hn ho K hK
      obtain ⟨n4, -⟩ := hn
      have n4 : us 4 = _ := n4
      clear ho
      obtain ⟨r1, r2⟩ := id hR
      rw [if_pos (by rfl)]
      go_simp
      refine hK _ _ _ (by simp only [Act.put, List.setIfInBounds_toArray, List.set_cons_zero, List.set_cons_succ, Nat.reduceAdd, n4] <;> rfl) ?_ hR ⟨fun h => h, trivial⟩
      refine only_mk (v := v) ?_
      with_reducible rfl
    · intro us v hR hn ho K hK
      clear ho
      obtain ⟨r1, r2⟩ := id hR
      rw [if_pos (by rfl)]
      go_simp
      refine hK _ _ _ (by simp only [Act.put, List.setIfInBounds_toArray, List.set_cons_zero, List.set_cons_succ, Nat.reduceAdd] <;> rfl) ?_ hR ⟨fun h => h, trivial⟩
      refine only_mk (v := v) ?_
      with_reducible rfl
    · intro us v hR hn ho K hK
      obtain ⟨n6, -⟩ := hn
      have n6 : us 6 = _ := n6
      clear ho
      obtain ⟨r1, r2⟩ := id hR
      rw [if_pos (by rfl)]
      go_simp
      with_reducible refine (read_is s 5 8 _ hs' (by omega) (by omega) 5 8 E5 rfl rfl HE5.out).mono ?_
      rintro e v' ⟨rfl, hbr⟩
      dsimp only
      exact hK _ _ _ (by simp only [Act.put, List.setIfInBounds_toArray, List.set_cons_zero, List.set_cons_succ, Nat.reduceAdd, n6] <;> rfl) rfl ⟨r1.trans (hbr.mono r1.size), (hbr.block _ (lt_of_block r2)).trans r2⟩ ⟨fun ⟨g, h1, h2, h3⟩ => ⟨g, h1, h2, (hbr.block _ (lt_of_block h3)).trans h3⟩, trivial⟩
    · intro us v hR hn ho K hK
      clear ho
      obtain ⟨r1, r2⟩ := id hR
      rw [if_pos (by rfl)]
      go_simp
      refine hK _ _ _ (by simp only [Act.put, List.setIfInBounds_toArray, List.set_cons_zero, List.set_cons_succ, Nat.reduceAdd] <;> rfl) ?_ hR ⟨fun h => h, trivial⟩
      refine only_mk (v := v) ?_
      with_reducible rfl
    · intro us v hR hn ho K hK
      obtain ⟨n8, -⟩ := hn
      have n8 : us 8 = _ := n8
      clear ho
      obtain ⟨r1, r2⟩ := id hR
      rw [if_pos (by rfl)]
      go_simp
      with_reducible refine (read_is s 13 8 _ hs' (by omega) (by omega) 13 8 E13 rfl rfl HE13.out).mono ?_
      rintro e v' ⟨rfl, hbr⟩
      dsimp only
      exact hK _ _ _ (by simp only [Act.put, List.setIfInBounds_toArray, List.set_cons_zero, List.set_cons_succ, Nat.reduceAdd, n8] <;> rfl) rfl ⟨r1.trans (hbr.mono r1.size), (hbr.block _ (lt_of_block r2)).trans r2⟩ ⟨fun ⟨g, h1, h2, h3⟩ => ⟨g, h1, h2, (hbr.block _ (lt_of_block h3)).trans h3⟩, trivial⟩
    · intro us v hR hn ho K hK
      clear ho
      obtain ⟨r1, r2⟩ := id hR
      rw [if_pos (by rfl)]
      go_simp
      refine hK _ _ _ (by simp only [Act.put, List.setIfInBounds_toArray, List.set_cons_zero, List.set_cons_succ, Nat.reduceAdd] <;> rfl) ?_ hR ⟨fun h => h, trivial⟩
      refine only_mk (v := v) ?_
      with_reducible rfl
    · intro us v hR hn ho K hK
      obtain ⟨n10, -⟩ := hn
      have n10 : us 10 = _ := n10
      clear ho
      obtain ⟨r1, r2⟩ := id hR
      rw [if_pos (by rfl)]
      go_simp
      refine hK _ _ _ (by simp only [Act.put, List.setIfInBounds_toArray, List.set_cons_zero, List.set_cons_succ, Nat.reduceAdd, n10] <;> rfl) ?_ hR ⟨fun h => h, trivial⟩
      refine only_mk (v := v) ?_
      with_reducible rfl
    · intro us v hR hn ho K hK
      obtain ⟨n2, n5, n7, n9, n11, -⟩ := hn
      have n2 : us 2 = _ := n2
      have n5 : us 5 = _ := n5
      have n7 : us 7 = _ := n7
      have n9 : us 9 = _ := n9
      have n11 : us 11 = _ := n11
      clear ho
      obtain ⟨r1, r2⟩ := id hR
      rw [if_pos (by rfl)]
      go_simp
      refine hK _ _ _ (by simp only [Act.put, List.setIfInBounds_toArray, List.set_cons_zero, List.set_cons_succ, Nat.reduceAdd, n2, n5, n7, n9, n11] <;> rfl) ?_ hR ⟨fun h => h, trivial⟩
      refine only_mk (v := v) ?_
      with_reducible rfl
    · intro us v hR hn ho K hK
      clear ho
      obtain ⟨r1, r2⟩ := id hR
      rw [if_pos (by rfl)]
      go_simp
      have hb1 : Below v.heap.size v (v.alloc (.cells zeros 83)) := (Below.refl _ _).alloc (Nat.le_refl _) _
      exact hK _ _ _ (by simp only [Act.put, List.setIfInBounds_toArray, List.set_cons_zero, List.set_cons_succ, Nat.reduceAdd] <;> rfl) ⟨v.heap.size, rfl, lt_of_block r2, heap_alloc_new v _⟩ ⟨r1.trans (hb1.mono r1.size), (hb1.block _ (lt_of_block r2)).trans r2⟩ trivial
    · intro us v hR hn ho K hK
      obtain ⟨n12, n13, -⟩ := hn
      have n12 : us 12 = _ := n12
      clear ho
      obtain ⟨r1, r2⟩ := id hR
      obtain ⟨g, e13, hg1, hg2⟩ := n13
      have z0 := cell_of_block hg2 0
      have z1 := cell_of_block hg2 1
      have z2 := cell_of_block hg2 2
      have z3 := cell_of_block hg2 3
      have z4 := cell_of_block hg2 4
      simp [zeros] at z0 z1 z2 z3 z4
      have f0 := frozen_of_block hg2 0
      have f1 := frozen_of_block hg2 1
      have f2 := frozen_of_block hg2 2
      have f3 := frozen_of_block hg2 3
      have f4 := frozen_of_block hg2 4
      rw [if_pos (by rfl)]
      go_simp
      exact hK undef _ _ (by simp only [Act.put, List.setIfInBounds_toArray, List.set_cons_zero, List.set_cons_succ, Nat.reduceAdd, n12, e13] <;> rfl) ⟨g, e13, hg1, stored5' hg2 _ _ _ _ _⟩ ⟨r1.trans (stored_below' (Nat.le_of_lt hg1) _ _ _ _ _), (stored_far (Nat.ne_of_lt hg1) _ _ _ _ _).trans r2⟩ trivial
  case hla =>
    intro us v hR hl
    obtain ⟨n0, n1, n2, n3, n4, n5, n6, n7, n8, n9, n10, n11, n12, n14, -⟩ := need_last hl [0, 1, 2, 3, 4, 5, 6, 7, 8, 9, 10, 11, 12, 14] (by kernel_rfl)
    have n0 : us 0 = _ := n0
    have n1 : us 1 = _ := n1
    have n2 : us 2 = _ := n2
    have n3 : us 3 = _ := n3
    have n4 : us 4 = _ := n4
    have n5 : us 5 = _ := n5
    have n6 : us 6 = _ := n6
    have n7 : us 7 = _ := n7
    have n8 : us 8 = _ := n8
    have n9 : us 9 = _ := n9
    have n10 : us 10 = _ := n10
    have n11 : us 11 = _ := n11
    have n12 : us 12 = _ := n12
    obtain ⟨r1, r2⟩ := id hR
    simp only [n0, n1, n2, n3, n4, n5, n6, n7, n8, n9, n10, n11, n12]
    clear hl n0 n1 n2 n3 n4 n5 n6 n7 n8 n9 n10 n11 n12
    obtain ⟨g, e13, hg1, hg2⟩ := n14
    simp only [e13]
    have z0 := cell_of_block hg2 0
    have z1 := cell_of_block hg2 1
    have z2 := cell_of_block hg2 2
    have z3 := cell_of_block hg2 3
    have z4 := cell_of_block hg2 4
    simp at z0 z1 z2 z3 z4
    clear n0 n3 n6 n8 n10
    cases hr : (parts s.data.toList).right
    all_goals
      have HRR := Lib.hid hr
      clear hr
      go_wp2_with fail
    · refine (right_is ⟨(s[2].toNat : Int), E3, E5, E13, B⟩ false (by rw [HP.out]; exact HRR.out) _).mono ?_
      rintro e v3 ⟨rfl, hb3⟩
      have hX : v3.heap[w.heap.size]? = some (.cells zeros 83 (0, 0)) := (hb3.block _ (lt_of_block r2)).trans r2
      have x0 := cell_of_block hX 0
      have x1 := cell_of_block hX 1
      have x2 := cell_of_block hX 2
      have x3 := cell_of_block hX 3
      have x4 := cell_of_block hX 4
      simp [zeros] at x0 x1 x2 x3 x4
      have y0 := frozen_of_block hX 0
      have y1 := frozen_of_block hX 1
      have y2 := frozen_of_block hX 2
      have y3 := frozen_of_block hX 3
      have y4 := frozen_of_block hX 4
      have hlt := lt_of_block hX
      have hsz : w.heap.size ≤ v3.heap.size := Nat.le_of_lt hlt
      go_wp2_with fail
      refine get_end _ _ w.heap.size rfl rfl (stored5 hX _ _ _ _ _ _) ⟨fun h => absurd (HRR.out.symm.trans h) (by simp), fun _ => ⟨v3.heap.size, rfl, ?_, hsz, (r1.trans (hb3.mono r1.size)).trans (stored_below (Nat.le_refl _) hsz _ _ _ _ _ _)⟩⟩
      exact fault_stored _ _ _ _ _ _ _ _ _
    · refine (right_is ⟨(s[2].toNat : Int), E3, E5, E13, B⟩ true (by rw [HP.out]; exact HRR.out) _).mono ?_
      rintro e v3 ⟨rfl, hb3⟩
      have hX : v3.heap[w.heap.size]? = some (.cells zeros 83 (0, 0)) := (hb3.block _ (lt_of_block r2)).trans r2
      have hg3 := (hb3.block _ (lt_of_block hg2)).trans hg2
      clear z0 z1 z2 z3 z4
      have z0 := cell_of_block hg3 0
      have z1 := cell_of_block hg3 1
      have z2 := cell_of_block hg3 2
      have z3 := cell_of_block hg3 3
      have z4 := cell_of_block hg3 4
      simp at z0 z1 z2 z3 z4
      have x0 := cell_of_block hX 0
      have x1 := cell_of_block hX 1
      have x2 := cell_of_block hX 2
      have x3 := cell_of_block hX 3
      have x4 := cell_of_block hX 4
      simp [zeros] at x0 x1 x2 x3 x4
      have y0 := frozen_of_block hX 0
      have y1 := frozen_of_block hX 1
      have y2 := frozen_of_block hX 2
      have y3 := frozen_of_block hX 3
      have y4 := frozen_of_block hX 4
      have hlt := lt_of_block hX
      have hsz : w.heap.size ≤ v3.heap.size := Nat.le_of_lt hlt
      go_wp2_with fail
      refine get_end _ _ w.heap.size rfl rfl (stored5' hX _ _ _ _ _) ⟨fun _ => ⟨?_, (r1.trans (hb3.mono r1.size)).trans (stored_below' (Nat.le_refl _) _ _ _ _ _)⟩, fun h => absurd (HRR.out.symm.trans h) (by simp)⟩
      rw [← HP.out]; rfl
end
end Go.Proofs.YtihhflajkohibaaGreatDoor.Frame
/- Layer 6: errors.As and errors.Is of a fault, walked. Conditions: the variable of package errors is laid; the fault and the target lie. -/
namespace Go.Proofs.YtihhflajkohibaaGreatDoor.Frame
set_option linter.unusedSimpArgs false
set_option linter.unusedVariables false
set_option maxRecDepth 100000
open Go.RowKit Go.Extern.Stop Go.Stop Go.Extern
open Go.Proofs.YtihhflajkohibaaGreatDoor

/-- the model's entry for Comparable -/
def cmpF : Array Value → Sem Value := ReflectliteType.method fun t => do Rtype.noPackHeld "Comparable" t; pure (.bool (← typeInfo t).comparable)
theorem comparableE (w : World) : (cmpF #[.agg #[.pointer (some ⟨2, 39, none⟩)]]).run Tryz.prog w = .ok (.bool true) w := by kernel_rfl
theorem FaultAt.alloc {w : World} {g a : Nat} {n : Int} (h : FaultAt w g a n) (o : Obj) : FaultAt (w.alloc o) g a n := (Below.heap_alloc w o g (lt_of_block h)).trans h
theorem as_nil (t : Value) (w : World) : Calls Tryz.prog 75 #[.nilIface, t] w fun e w' => e = .returned (.bool false) ∧ w = w' := by
  go_enter Tryz.func75, Tryz.ntmps75
  go_wp2
  go_ret
  exact ⟨rfl, rfl⟩
set_option maxRecDepth 100000 in
set_option maxHeartbeats 1000000 in
theorem unwrap_is (g a : Nat) (n : Int) (w : World) (hf : FaultAt w g a n) : Calls Tryz.prog 116 #[.pointer (some ⟨g, 0, none⟩)] w fun e w' => e = .returned (.iface 39 (.int .i64 n)) ∧ w = w' := by
  have c1 := cell_of_block hf 1
  simp at c1
  go_enter Tryz.func116, Tryz.ntmps116
  go_wp2
  go_ret
  exact ⟨rfl, rfl⟩
set_option maxRecDepth 100000 in
set_option maxHeartbeats 4000000 in
/-- errors.As into a number: what the fault wraps -/
theorem as_inner (g a T : Nat) (n : Int) (V : Addr) (w : World) (hf : FaultAt w g a n) (hT : w.heap[T]? = some (.cells #[.int .i64 0] 39 (0, 0))) (hV : w.cell? V = some (.pointer (some ⟨T, 0, none⟩))) :
    Calls Tryz.prog 91 #[.iface 147 (.pointer (some ⟨g, 0, none⟩)), .iface 136 (.pointer (some ⟨T, 0, none⟩)), .agg #[.pointer (some ⟨2, 136, none⟩), .pointer (some V), .int .u64 150], .iface 166 (.agg #[.pointer (some ⟨2, 39, none⟩)])] w
      fun e w' => e = .returned (.bool true) ∧ w'.heap[T]? = some (.cells #[.int .i64 n] 39 (0, 0)) ∧ Kept [T] w w' := by
  have h10 := @run_callFunc_extern Tryz.prog 92 _ ReflectliteType.typeOf Tryz.func92 (by kernel_rfl) (by kernel_rfl) (by kernel_rfl) (by kernel_rfl)
  have h35 := @run_callFunc_extern Tryz.prog 121 _ (ReflectliteType.relation "AssignableTo" ReflectliteType.assignableTo) Tryz.func121 (by kernel_rfl) (by kernel_rfl) (by kernel_rfl) (by kernel_rfl)
  have h6 := @run_callFunc_extern Tryz.prog 88 _ (fun args => ReflectliteValue.unpack (args.getD 0 (.tuple #[]))) Tryz.func88 (by kernel_rfl) (by kernel_rfl) (by kernel_rfl) (by kernel_rfl)
  have h11 := @run_callFunc_extern Tryz.prog 93 _ (ReflectliteValue.method (ReflectliteValue.valueError "reflectlite.Value.Elem" 0) ReflectliteValue.elem) Tryz.func93 (by kernel_rfl) (by kernel_rfl) (by kernel_rfl) (by kernel_rfl)
  have h12 := @run_callFunc_extern Tryz.prog 94 _ ReflectliteValue.set Tryz.func94 (by kernel_rfl) (by kernel_rfl) (by kernel_rfl) (by kernel_rfl)
  have tD := typeOfD
  have tE := typeOfE
  have aDE := assignDE
  have aEE := assignEE
  have mA := mAssignable
  have vE := valueOfE
  have nD := noAsD
  have uD := unwrapD
  have mU := mUnwrap
  have hlt := lt_of_block hT
  obtain ⟨vb, vo, vs⟩ := V
  obtain rfl : vs = Option.none := World.cell?_spot hV
  have hvl : vb < w.heap.size := by
    rcases Nat.lt_or_ge vb w.heap.size with h | h
    · exact h
    · simp [World.cell?, Array.getElem?_eq_none h] at hV
  have hW1 : Below w.heap.size w (w.alloc (.cells #[.pointer (some ⟨2, 136, none⟩), .pointer (some ⟨vb, vo, none⟩), .int .u64 150] 155)) := (Below.refl _ _).alloc (Nat.le_refl _) _
  have hW2 : Below w.heap.size w ((w.alloc (.cells #[.pointer (some ⟨2, 136, none⟩), .pointer (some ⟨vb, vo, none⟩), .int .u64 150] 155)).alloc (.cells #[.int .i64 n] 39)) := hW1.alloc hW1.size _
  have hV1 := (hW1.cell (p := ⟨vb, vo, none⟩) hvl).trans hV
  have el := elemVP ⟨vb, vo, none⟩ ⟨T, 0, none⟩ _ hV1
  have hT2 := (hW2.block T hlt).trans hT
  have t2 := cell_of_block hT2 0
  simp at t2
  have hn2 : ((w.alloc (.cells #[.pointer (some ⟨2, 136, none⟩), .pointer (some ⟨vb, vo, none⟩), .int .u64 150] 155)).alloc (.cells #[.int .i64 n] 39)).cell? ⟨w.heap.size + 1, 0, none⟩ = some (.int .i64 n) := by
    simp
  have st := setE ⟨T, 0, none⟩ ⟨w.heap.size + 1, 0, none⟩ n (.int .i64 0) _ hn2 ((cell_of_block hT2 0).trans rfl) (frozen_of_block hT2 0)
  have HT := Lib.hid hT
  clear hW1 hW2 hV1 t2 hn2 hT hT2
  go_enter Tryz.func91, Tryz.ntmps91
  go_wp2_with fail
  refine wp_loop_rounds 2 ?_
  rw [rounds_succ]
  go_wp2_with (go_at_call 116; refine (unwrap_is g a n _ (hf.alloc _)).mono ?_; rintro e w' ⟨rfl, rfl⟩)
  rw [rounds_succ]
  go_wp2_with fail
  go_ret
  have hl1 : T < (w.setCell ⟨T, 0, none⟩ (.int .i64 n)).heap.size := by simpa [World.setCell] using hlt
  exact ⟨rfl, (Below.heap_alloc _ _ T (by simp; omega)).trans ((Below.heap_alloc _ _ T hl1).trans (set_block HT.out 0 _)), (((Kept.refl [T] w).setCell (.inl (by simp)) _).alloc _).alloc _⟩
set_option maxRecDepth 100000 in
set_option maxHeartbeats 4000000 in
theorem as_errno (g a T : Nat) (n : Int) (w : World) (hg : ErrAt w) (hf : FaultAt w g a n) (hT : w.heap[T]? = some (.cells #[.int .i64 0] 39 (0, 0))) :
    Calls Tryz.prog 75 #[.iface 147 (.pointer (some ⟨g, 0, none⟩)), .iface 136 (.pointer (some ⟨T, 0, none⟩))] w
      fun e w' => e = .returned (.bool true) ∧ w'.heap[T]? = some (.cells #[.int .i64 n] 39 (0, 0)) ∧ Kept [T] w w' := by
  have h6 := @run_callFunc_extern Tryz.prog 88 _ (fun args => ReflectliteValue.unpack (args.getD 0 (.tuple #[]))) Tryz.func88 (by kernel_rfl) (by kernel_rfl) (by kernel_rfl) (by kernel_rfl)
  have h7 := @run_callFunc_extern Tryz.prog 89 _ (ReflectliteValue.methodAny (ReflectliteValue.valueError "reflectlite.Value.Type" 0) (fun t _ _ _ => ReflectliteType.toType t)) Tryz.func89 (by kernel_rfl) (by kernel_rfl) (by kernel_rfl) (by kernel_rfl)
  have h8 := @run_callFunc_extern Tryz.prog 90 _ (ReflectliteValue.method (ReflectliteValue.valueError "reflectlite.Value.IsNil" 0) ReflectliteValue.isNil) Tryz.func90 (by kernel_rfl) (by kernel_rfl) (by kernel_rfl) (by kernel_rfl)
  have h27 := @run_callFunc_extern Tryz.prog 109 _ (ReflectliteType.abiMethod fun t => do pure (.int .u8 (← Rtype.kind t))) Tryz.func109 (by kernel_rfl) (by kernel_rfl) (by kernel_rfl) (by kernel_rfl)
  have h37 := @run_callFunc_extern Tryz.prog 123 _ (ReflectliteType.method ReflectliteType.elem) Tryz.func123 (by kernel_rfl) (by kernel_rfl) (by kernel_rfl) (by kernel_rfl)
  have h38 := @run_callFunc_extern Tryz.prog 124 _ (ReflectliteType.relation "Implements" ReflectliteType.implements_) Tryz.func124 (by kernel_rfl) (by kernel_rfl) (by kernel_rfl) (by kernel_rfl)
  have f6 := valueOfP
  have f7 := typeP
  have mK := mKind
  have mE := mElem
  have mI := mImplements
  have kP := kindP
  have kE := kindE
  have eP := elemP
  have iE := implementsE
  have n8 := isNilP ⟨w.heap.size, 0, none⟩ ⟨T, 0, none⟩ ((w.alloc (.cells #[.pointer (some ⟨T, 0, none⟩)] 136)).alloc (.cells #[.pointer (some ⟨2, 136, none⟩), .pointer (some ⟨w.heap.size, 0, none⟩), .int .u64 150] 155)) (by simp)
  have hlt : 0 < w.heap.size := by
    rcases Nat.lt_or_ge 0 w.heap.size with h | h
    · exact h
    · have e : w.heap[0]? = Option.none := Array.getElem?_eq_none h
      simp [ErrAt, World.cell?, e] at hg
  have hg2 : ((w.alloc (.cells #[.pointer (some ⟨T, 0, none⟩)] 136)).alloc (.cells #[.pointer (some ⟨2, 136, none⟩), .pointer (some ⟨w.heap.size, 0, none⟩), .int .u64 150] 155)).cell? ⟨0, 0, none⟩ = some (.iface 166 (.agg #[.pointer (some ⟨2, 132, none⟩)])) := by
    rw [World.cell?_alloc_lt _ _ ⟨0, 0, none⟩ (by simp <;> omega), World.cell?_alloc_lt _ _ ⟨0, 0, none⟩ hlt]; exact hg
  have hW1 : Below w.heap.size w (w.alloc (.cells #[.pointer (some ⟨T, 0, none⟩)] 136)) := (Below.refl _ _).alloc (Nat.le_refl _) _
  have hW2 : Below w.heap.size w ((w.alloc (.cells #[.pointer (some ⟨T, 0, none⟩)] 136)).alloc (.cells #[.pointer (some ⟨2, 136, none⟩), .pointer (some ⟨w.heap.size, 0, none⟩), .int .u64 150] 155)) := hW1.alloc hW1.size _
  have HW2 := Lib.hid hW2
  have HT := Lib.hid ((hW2.block T (lt_of_block hT)).trans hT)
  clear hW1 hW2 hT hlt
  go_enter Tryz.func75, Tryz.ntmps75
  go_wp2_with ((go_at_call 91; refine (as_inner g a T n ⟨w.heap.size, 0, none⟩ _ ((hf.alloc _).alloc _) HT.out (by simp)).mono ?_; rintro e w' ⟨rfl, hT', hk⟩))
  go_ret
  exact ⟨rfl, hT', (Kept.of_below HW2.out _).trans hk⟩
end Go.Proofs.YtihhflajkohibaaGreatDoor.Frame
