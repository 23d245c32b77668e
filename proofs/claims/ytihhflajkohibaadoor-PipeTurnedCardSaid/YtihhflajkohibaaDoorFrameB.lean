/- Layer 6: read is the number that bytes are. Conditions: at most 8 bytes. -/
import Derived.Test.YtihhflajkohibaaDoorFrameA
import Derived.Lib.ConvBytes
import Derived.Laws.Strings2
import Derived.Laws.BitsAllLaws
namespace Go.Proofs.YtihhflajkohibaaDoor.Frame
set_option linter.unusedSimpArgs false
set_option linter.unusedVariables false
set_option maxRecDepth 100000
open Go.RowKit
open Go.Proofs.YtihhflajkohibaaDoor

def numI (l : List UInt8) : Int := (num l : Int)
theorem sub_take (l : List UInt8) (a n j : Nat) (hj : j ≤ n) : (sub l a n).take j = sub l a j := by
  unfold sub; rw [List.take_take, Nat.min_eq_left hj]
theorem slice_mid {t : TypeId} {P : Program} (ht : P.underlying t = some .string) (s : ByteArray) (a b : Nat) (h1 : a ≤ b) (h2 : b ≤ s.size) (w : World) :
    (Instr.slice t (.string s) (some (.int .i64 (a : Int))) (some (.int .i64 (b : Int))) none).run P w = .ok (.string (s.extract a b)) w := by
  rw [run_slice_string w t s .i64 .i64 _ _ ht (by omega) (by omega) (by omega)]; rfl
theorem conv_bytes (s : ByteArray) (w : World) : ∃ c, (convert 9 90 (.string s)).run Tryd.prog w = .ok (.slice (some ⟨w.heap.size, 0, none⟩) s.size c) (Lib.bytesWorld w 5 s) :=
  ⟨_, Lib.run_convert_string_bytes w _ _ _ s Tryd.underlying9 Tryd.underlying90 Tryd.underlying5⟩
theorem bytes_below (w : World) (e : TypeId) (s : ByteArray) : Below w.heap.size w (Lib.bytesWorld w e s) :=
  ⟨rfl, rfl, rfl, by rw [Lib.bytesWorld_size]; omega, fun k hk => Lib.bytesWorld_at_old w e s k hk⟩
/-- one byte more -/
theorem numI_snoc (l : List UInt8) (c : UInt8) : numI (l ++ [c]) = numI l * 256 + (c.toNat : Int) := by unfold numI; rw [num_snoc]; simp
theorem numI_range (l : List UInt8) (h : l.length ≤ 8) : 0 ≤ numI l ∧ numI l ≤ 18446744073709551615 := by
  have h1 := num_lt l
  have h2 : 256 ^ l.length ≤ 256 ^ 8 := Nat.pow_le_pow_right (by decide) h
  unfold numI; omega
theorem or_step (l : List UInt8) (h : l.length ≤ 7) (c : UInt8) : bits .or .u64 (IntKind.u64.wrap (numI l * 256)) (IntKind.u64.wrap (c.toNat : Int)) = numI (l ++ [c]) := by
  have h1 := num_lt l
  have h2 : 256 ^ l.length ≤ 256 ^ 7 := Nat.pow_le_pow_right (by decide) h
  have hc := c.toNat_lt
  have e1 : IntKind.u64.wrap (numI l * 256) = ((2 ^ 8 * num l : Nat) : Int) := by
    rw [IntKind.wrap_u64]; unfold numI; omega
  have e2 : IntKind.u64.wrap (c.toNat : Int) = ((c.toNat : Nat) : Int) := by
    rw [IntKind.wrap_u64]; omega
  rw [e1, e2, u64_or_nat _ _ (by omega) (by omega), ← Nat.two_pow_add_eq_or_of_lt (by omega)]
  unfold numI
  rw [num_snoc]; omega
theorem take_next (l : List UInt8) (j : Nat) (h : j < l.length) : l.take (j + 1) = l.take j ++ [l.getD j 0] := by
  rw [List.take_succ_eq_append_getElem h, List.getD_eq_getElem?_getD, List.getElem?_eq_getElem h]; rfl
section
set_option maxRecDepth 100000 in
set_option maxHeartbeats 1000000 in
theorem read_any (s : ByteArray) (a n : Nat) (w : World) (hs : s.size ≤ maxLen) (h : a + n ≤ s.size) (hn : n ≤ 8) :
    Calls Tryd.prog 56 #[.string s, .int .i64 (a : Int), .int .i64 (n : Int)] w fun e w' => e = .returned (.int .u64 (numI (sub s.data.toList a n))) ∧ Below w.heap.size w w' := by
  unfold maxLen at hs
  obtain ⟨b, hb⟩ : ∃ b : Nat, b = a + n := ⟨_, rfl⟩
  have he : (a : Int) + (n : Int) = (b : Int) := by omega
  have hsl := slice_mid Tryd.underlying9 s a b (by omega) (by omega)
  obtain ⟨t, ht⟩ : ∃ t : ByteArray, t = s.extract a b := ⟨_, rfl⟩
  have hd : t.data.toList = sub s.data.toList a n := by
    rw [ht, hb, Lib.extract_data]; unfold sub; rw [show a + n - a = n from by omega]
  have htn : t.size = n := by
    have e : t.data.toList.length = t.size := by simp
    rw [← e, hd, sub_length _ _ _ (by rw [show s.data.toList.length = s.size from by simp]; exact h)]
  rw [← ht] at hsl
  obtain ⟨c, hcv⟩ := conv_bytes t w
  have hbl := bytes_below w 5 t
  have hcell := fun j hj => Lib.bytesWorld_cell w 5 t j hj
  rw [htn] at hcv hcell
  generalize Lib.bytesWorld w 5 t = w1 at *
  have hbs : b ≤ s.size := by omega
  have HC := Lib.hid hcell
  have HD := Lib.hid hd
  have HN := Lib.hid (show t.data.toList.length = n from (show t.data.toList.length = t.size from by simp).trans htn)
  clear hb h hcell hd ht htn
  go_enter Tryd.func56, Tryd.ntmps56
  go_wp2_with fail
  go_loop [7, 18] (fun m i => ∃ j : Nat, j ≤ n ∧ i = .int .i64 (j : Int) ∧ m = .int .u64 (numI (t.data.toList.take j))) (fun _ i => n - (intOf i).toNat)
  case atStart => exact ⟨0, Nat.zero_le _, rfl, rfl⟩
  case round =>
    obtain ⟨j, hj, rfl, rfl⟩ := hrel
    by_cases hlt : j < n
    · have hc := HC.out j hlt
      have hst := or_step (t.data.toList.take j) (by rw [List.length_take]; omega) (t.data.toList.getD j 0)
      rw [← take_next _ j (by rw [HN.out]; exact hlt)] at hst
      have HST := Lib.hid hst
      clear hst
      generalize t.data.toList.getD j 0 = x at *
      go_wp2_with fail
      go_round
      case rel => exact ⟨j + 1, by omega, by go_num, by rw [HST.out]⟩
      case measure => simp [intOf]; omega
    · obtain rfl : j = n := by omega
      go_wp2_with fail
      go_ret
      exact ⟨ret_int (by rw [List.take_of_length_le (by rw [HN.out]; exact Nat.le_refl _), HD.out]), hbl⟩
end
end Go.Proofs.YtihhflajkohibaaDoor.Frame
