/- Layer 6: number puts a number's bytes behind others; read is the number that bytes are. Conditions: at most 8 bytes. -/
import Derived.Test.YtihhflajkohibaaDoorFramePlain
import Derived.Test.YtihhflajkohibaaDoorCrcB
import Derived.Test.YtihhflajkohibaaDoorVec
import Derived.Outline
import Derived.Deep.DeepCutAuto
namespace Go.Proofs.YtihhflajkohibaaDoor.Frame
set_option linter.unusedSimpArgs false
set_option linter.unusedVariables false
set_option maxRecDepth 100000
open Go.RowKit
open Go.Proofs.YtihhflajkohibaaDoor

/-- a byte in memory -/
def bv (b : UInt8) : Value := .int .u8 (b.toNat : Int)
theorem bv_one {l : List UInt8} : ∀ u ∈ l.map bv, u.oneCell' = true := by
  intro u hu
  obtain ⟨x, _, rfl⟩ := List.mem_map.1 hu
  rfl
theorem byteInfo : (Tryd.prog.info? 5).map (fun i => (i.zero, i.size, i.bytes)) = some (some (.int .u8 0), 1, 1) := by kernel_rfl
/-- a number without its last bytes -/
def cutN (n m : Nat) : Int := ((n / 256 ^ m : Nat) : Int)
theorem cutN_eq (n m : Nat) : (n : Int) / 2 ^ (8 * (m : Int)).toNat = cutN n m := by
  unfold cutN
  rw [show (8 * (m : Int)).toNat = 8 * m from by omega, show (2 : Int) ^ (8 * m) = ((256 ^ m : Nat) : Int) from by rw [show 256 = 2 ^ 8 from rfl, ← Nat.pow_mul]; simp]
  simp
theorem cutN_byte (n m : Nat) : Value.int .u8 (cutN n m % 256) = bv (Crc.b8 (n / 256 ^ m)) := by
  unfold cutN bv
  rw [b8_toNat]; simp
theorem hi_step (n k m : Nat) (h : m + 1 ≤ k) : (hi n k).take (k - m) = (hi n k).take (k - (m + 1)) ++ [Crc.b8 (n / 256 ^ m)] := by
  induction k with
  | zero => omega
  | succ k ih =>
    by_cases e : m = k
    · subst e
      simp [hi]
    · rw [show k + 1 - m = (k - m) + 1 from by omega, show k + 1 - (m + 1) = (k - (m + 1)) + 1 from by omega, hi, List.take_succ_cons, List.take_succ_cons, ih (by omega)]; rfl
theorem strOfNums_bytes (l : List UInt8) : strOfNums (l.map fun b => (b.toNat : Int)) = ⟨l.toArray⟩ := by
  unfold strOfNums
  congr 1
  rw [List.map_map]
  congr 1
  conv => rhs; rw [← List.map_id l]
  refine List.map_congr_left fun b _ => ?_
  apply UInt8.toNat_inj.1
  have := b.toNat_lt
  simp
/-- bytes of the call's own, as a string -/
theorem conv_vec {w : World} {F : List Nat} {A : Option Addr} {n c : Nat} {l : List UInt8} (h : Vec w F 1 A n c (l.map bv)) (hn : 0 < n) :
    (convert 90 9 (.slice A n c)).run Tryd.prog w = .ok (.string ⟨l.toArray⟩) w := by
  have hl : l.length = n := by have := h.len; simpa using this
  have h0 : ∀ j (hj : j < n), (l.map bv)[j]? = some (bv (l[j]'(by omega))) := fun j hj => by
    rw [List.getElem?_map, List.getElem?_eq_getElem (by omega)]; rfl
  obtain ⟨g, off, rfl, _, _, _⟩ := h.at (h0 0 hn)
  rw [← strOfNums_bytes]
  refine run_convert_bytes_arg _ 90 5 Tryd.underlying90 Tryd.underlying5 g off n c _ (by rw [List.length_map, hl]) (fun i hi => ?_) 9 Tryd.underlying9
  obtain ⟨g', off', e, _, _, hc⟩ := h.at (h0 i hi)
  injection e with e
  injection e with e1 e2
  subst e1; subst e2
  rw [hc]
  simp [bv, List.getD_eq_getElem?_getD, List.getElem?_eq_getElem (show i < l.length by omega)]
section
attribute [local go_sem] cutN_eq
set_option maxRecDepth 100000 in
set_option maxHeartbeats 1000000 in
theorem number_any {w : World} {F : List Nat} {A : Option Addr} {l : List UInt8} {c : Nat} (hv : Vec w F 1 A l.length c (l.map bv)) (n k : Nat) (hk : k ≤ 8) (hl : l.length ≤ 1000) :
    Calls Tryd.prog 48 #[.slice A l.length c, .int .u64 (n : Int), .int .i64 (k : Int)] w fun e w' => ∃ v, e = .returned v ∧ Appended w F 1 (l.length + k) ((l ++ hi n k).map bv) v w' := by
  obtain ⟨i0, hi0, hz0, hz1, hz2⟩ := info_parts byteInfo
  go_enter Tryd.func48, Tryd.ntmps48
  go_wp2_with fail
  go_loopw [0, 7] (fun s i wr => ∃ r : Nat, r ≤ k ∧ i = .int .i64 ((r : Int) - 1) ∧ ∃ F' A' c', s = .slice A' (l.length + (k - r)) c' ∧ Vec wr F' 1 A' (l.length + (k - r)) c' ((l ++ (hi n k).take (k - r)).map bv) ∧ Turns F F' w wr) (fun _ i _ => (intOf i + 1).toNat)
  case atStart => exact ⟨k, Nat.le_refl _, rfl, F, A, c, by simp, by simpa using hv, Turns.refl _ _⟩
  case round =>
    obtain ⟨r, hr, rfl, F', A', c', rfl, hv', ht⟩ := hrel
    cases r with
    | zero =>
      go_wp2_with fail
      go_ret
      have e : (hi n k).take (k - 0) = hi n k := List.take_of_length_le (by rw [hi_length]; omega)
      rw [e] at hv'
      exact ⟨_, rfl, F', A', c', rfl, hv', ht⟩
    | succ m =>
      have e1 : ((m + 1 : Nat) : Int) - 1 = (m : Int) := by omega
      rw [e1]
      clear e1
      have g0 : (0 : Int) ≤ 8 * (m : Int) := by omega
      have g1 : 8 * (m : Int) ≤ 64 := by omega
      have hal : Below wr.heap.size wr (wr.alloc (.cells #[.int .u8 (cutN n m % 256)] 5)) := (Below.refl _ _).alloc (Nat.le_refl _) _
      have HAL := Lib.hid (ht.trans (Turns.of_below hal F'))
      clear hal
      go_wp2_with ((at_builtin; refine wpList_append_vec _ rfl (.tmp 14) (.tmp 20) 90 90 rfl 5 i0 _ 1 1 Tryd.underlying90 hi0 hz0 hz1 hz2 rfl F' A' (l.length + (k - (m + 1))) c' _ _ 1 [.int .u8 (cutN n m % 256)] rfl rfl (hv'.alloc _) (src_new _ Tryd.underlying90 [.int .u8 (cutN n m % 256)] 1 1 1 rfl (by simp [Value.oneCell']) _ (heap_alloc_new wr _)) (by unfold maxLen; omega) (by omega) ?_; intro v' w' hap; obtain ⟨F2, A2, c2, rfl, hv2, ht2⟩ := hap.all))
      go_roundw
      case rel =>
        have e1 : l.length + (k - (m + 1)) + 1 = l.length + (k - m) := by omega
        have e2 : (l ++ (hi n k).take (k - (m + 1))).map bv ++ [.int .u8 (cutN n m % 256)] = (l ++ (hi n k).take (k - m)).map bv := by
          rw [cutN_byte, hi_step n k m hr, ← List.append_assoc, List.map_append (l₁ := l ++ _)]; rfl
        rw [e1, e2] at hv2
        exact ⟨m, by omega, rfl, F2, A2, c2, by rw [e1], hv2, HAL.out.trans ht2⟩
      case measure => simp [intOf]
theorem number_is {w : World} {F : List Nat} {A : Option Addr} {l : List UInt8} {c m : Nat} (hv : Vec w F 1 A m c (l.map bv)) (hm : l.length = m) (n k : Nat) (hk : k ≤ 8) (hl : m ≤ 1000) (n' k' : Int) (hn : n' = (n : Int)) (hk' : k' = (k : Int)) :
    Calls Tryd.prog 48 #[.slice A m c, .int .u64 n', .int .i64 k'] w fun e w' => ∃ F2 A2 c2, e = .returned (.slice A2 (m + k) c2) ∧ Vec w' F2 1 A2 (m + k) c2 ((l ++ hi n k).map bv) ∧ Turns F F2 w w' := by
  subst hm; subst hn; subst hk'
  refine (number_any hv n k hk hl).mono ?_
  rintro e w' ⟨v, rfl, h⟩
  obtain ⟨F2, A2, c2, rfl, h1, h2⟩ := h.all
  exact ⟨F2, A2, c2, rfl, h1, h2⟩
end
end Go.Proofs.YtihhflajkohibaaDoor.Frame
